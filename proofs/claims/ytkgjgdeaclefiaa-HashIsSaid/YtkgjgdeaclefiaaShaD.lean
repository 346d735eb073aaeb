/-
  sha2.Block.
-/
import Derived.Test.YtkgjgdeaclefiaaShaC
namespace Go.Proofs.Ytkgjgdeaclefiaa
open Go Go.Proofs Go.RowKit Go.Flo

theorem rndV_length (k w : UInt32) (v : List UInt32) (h : v.length = 8) : (rndV k w v).length = 8 := by
  match v, h with
  | [a, b, c, d, e, f, g, h], _ => rfl
theorem rndG_length (w v : List UInt32) (h : v.length = 8) : ∀ i, (rndG w v i).length = 8
  | 0 => h
  | i + 1 => rndV_length _ _ _ (rndG_length w v h i)
theorem blkV_length (h : List UInt32) (b : List UInt8) (hh : h.length = 8) : (blkV h b).length = 8 := by
  unfold blkV
  split
  · rw [List.length_zipWith, rndG_length _ _ hh, hh]; rfl
  · exact hh
set_option maxRecDepth 100000 in
set_option maxHeartbeats 4000000 in
theorem block_short (v : Value) (l : List UInt8) (h : List UInt32) (hh : h.length = 8) (hl : l.length ≠ 64) (w0 : World) (hI : Rd8 w0 v l) :
    Calls Try.prog 48 #[.agg (wA h), v] w0 fun e w' => e = .returned (.agg (wA h)) ∧ Below w0.heap.size w0 w' := by
  obtain ⟨a, cap, rfl⟩ := hI.shape
  have hl' : ((l.length : Int) == 64) = false := by rw [beq_eq_false_iff_ne]; omega
  have hl2 : ((l.length : Int) != 64) = true := by rw [bne, hl']; rfl
  clear hI
  have HL := Lib.hid hl
  clear hl
  have M := Mem.nil w0; have F := Mem.facts M; simp only [MemFacts] at F; (try simp only [ApartFacts] at F)
  go_enter Try.func48, Try.ntmps48
  go_wp2_with (first | (refine wl_alloc rfl 44 rfl octZ ?_; (try simp only [World.size_alloc])) | (refine wl_box rfl 44 _ rfl rfl ?_; (try simp only [World.size_alloc])) | (refine wl_isLoad 44 (.tmp 2) rfl ?_; refine wl_load rfl 44 (.tmp 2) rfl octT rfl (Mem.at (w0 := w0) 1 (by repeat' (first | (with_reducible exact M) | (with_reducible apply Mem.drew) | (with_reducible apply Mem.alloc') | (simp only [World.size_alloc]; exact rfl) | exact rfl)) (by rfl)) (by first | (rw [wA_size]; exact hh) | (rw [bA_size]; exact hh) | exact hh | exact rfl) ?_) | (refine wl_isStore 44 (.tmp 4) _ rfl ?_; refine wl_storeM (w0 := w0) rfl 44 (.tmp 4) _ rfl octT rfl rfl 0 (by repeat' (first | (with_reducible exact M) | (with_reducible apply Mem.drew) | (with_reducible apply Mem.alloc') | (simp only [World.size_alloc]; exact rfl) | exact rfl)) (by rfl) (by first | (rw [wA_size]; exact hh) | (rw [bA_size]; exact hh) | exact hh | exact rfl) (by first | (rw [wA_size]; exact z8) | (rw [bA_size]; exact z8) | exact z8 | exact rfl) (by first | exact wA_one _ | exact bA_one _ | decide) ?_; clear M F; intro M; (try simp only [World.size_alloc, size_setRow] at M); (try simp only [List.set_cons_succ] at M); (try simp only [List.set_cons_zero] at M); have F := Mem.facts M; simp only [MemFacts] at F; (try simp only [ApartFacts] at F)))
  refine bodyPost_ret (results_cell_row Try.results48 _ _ _ 44 (wA h) (0, 0) _ rfl (M.at 0 rfl) octT.under rfl (by rw [wA_size, hh]; exact octT.size)) rfl ⟨rfl, M.below⟩
theorem eight_of {α : Type} {l : List α} (h : l.length = 8) : ∃ a b c d e f g k, l = [a, b, c, d, e, f, g, k] := by
  match l, h with
  | [a, b, c, d, e, f, g, k], _ => exact ⟨a, b, c, d, e, f, g, k, rfl⟩
theorem wA8 (a b c d e f g h : UInt32) : wA [a, b, c, d, e, f, g, h] = #[.int .u32 (a.toNat : Int), .int .u32 (b.toNat : Int), .int .u32 (c.toNat : Int), .int .u32 (d.toNat : Int), .int .u32 (e.toNat : Int), .int .u32 (f.toNat : Int), .int .u32 (g.toNat : Int), .int .u32 (h.toNat : Int)] := by unfold wA; rfl
theorem chV_bits (e f g : UInt32) : bits .xor .u32 (g.toNat : Int) (bits .and .u32 (e.toNat : Int) (bits .xor .u32 (f.toNat : Int) (g.toNat : Int))) = ((chV e f g).toNat : Int) := by
  rw [u32_xor, u32_and, u32_xor]; rfl
theorem majV_bits (a b c : UInt32) : bits .or .u32 (bits .and .u32 (a.toNat : Int) (b.toNat : Int)) (bits .and .u32 (c.toNat : Int) (bits .or .u32 (a.toNat : Int) (b.toNat : Int))) = ((majV a b c).toNat : Int) := by
  rw [u32_or, u32_and, u32_and, u32_or]; rfl
theorem t_val (a b c d e : UInt32) : (((a.toNat : Int) + b.toNat + c.toNat + d.toNat) % 4294967296 + e.toNat) % 4294967296 = ((a + b + c + d + e).toNat : Int) := by
  rw [u32_add4, u32_add]
theorem pre_get {L : List Value} {k j : Nat} {v : Value} (h : (L.take k)[j]? = some v) : L.toArray[j]? = some v := by
  rw [List.getElem?_take] at h
  split at h
  · simpa using h
  · cases h
theorem heap_alloc_at (w : World) (o : Obj) (n : Nat) (h : w.heap.size = n) : (w.alloc o).heap[n]? = some o := h ▸ heap_alloc_new w o
theorem addr_add (b j : Nat) : (⟨b, 0, none⟩ : Addr).add j = ⟨b, j, none⟩ := by simp [Addr.add]; intro h; exact h.symm
theorem u32_add3 (a b c : UInt32) : ((a.toNat : Int) + b.toNat + c.toNat) % 4294967296 = ((a + b + c).toNat : Int) := by
  rw [UInt32.toNat_add, UInt32.toNat_add]
  omega
/-- Two rows, added up to a place. -/
def mixL (v h : List UInt32) (t : Nat) : List UInt32 := List.zipWith (· + ·) (v.take t) (h.take t) ++ v.drop t
theorem mixL_zero (v h : List UInt32) : mixL v h 0 = v := by simp [mixL]
theorem mixL_end (v h : List UInt32) (hv : v.length = 8) (hh : h.length = 8) : mixL v h 8 = List.zipWith (· + ·) v h := by
  unfold mixL
  rw [List.take_of_length_le (by omega), List.take_of_length_le (by omega), List.drop_eq_nil_of_le (by omega), List.append_nil]
theorem mixL_length (v h : List UInt32) (t : Nat) (hv : v.length = 8) (hh : h.length = 8) (ht : t ≤ 8) : (mixL v h t).length = 8 := by
  unfold mixL
  simp
  omega
theorem mixL_at (v h : List UInt32) (t : Nat) (hv : v.length = 8) (hh : h.length = 8) (ht : t < 8) : (mixL v h t).getD t 0 = v.getD t 0 := by
  unfold mixL
  rw [List.getD_eq_getElem?_getD, List.getElem?_append_right (by simp; omega), List.getElem?_drop, List.getD_eq_getElem?_getD]
  congr 2
  simp
  omega
theorem mixL_next (v h : List UInt32) (t : Nat) (hv : v.length = 8) (hh : h.length = 8) (ht : t < 8) : mixL v h (t + 1) = (mixL v h t).set t (v.getD t 0 + h.getD t 0) := by
  unfold mixL
  have hl : (List.zipWith (· + ·) (v.take t) (h.take t)).length = t := by simp; omega
  rw [List.set_append_right _ _ (by omega), hl, Nat.sub_self, List.drop_eq_getElem_cons (by omega : t < v.length), List.set_cons_zero]
  rw [List.take_succ_eq_append_getElem (by omega : t < v.length), List.take_succ_eq_append_getElem (by omega : t < h.length), List.zipWith_append (by simp; omega), List.append_assoc]
  simp [List.getD_eq_getElem?_getD, show t < v.length by omega, show t < h.length by omega]
structure Blk2 (l : List UInt8) (h v : List UInt32) (w0 : World) (b2 b4 b5 b6 b7 : Nat) (k : Value) (wr : World) (t : Nat) : Prop where
  le : t ≤ 8
  k : k = .int .i64 (t : Int)
  mem : Mem w0 wr [.c b7 (wA (mixL v h t)) 44, .c b6 (wA kL) 137, .c b5 (wA (schL l)) 137, .c b4 (wA (zw 8)) 44, .c b2 (wA h) 44]
structure Blk1 (l : List UInt8) (h : List UInt32) (w0 : World) (b2 b4 b5 b6 b7 : Nat) (k : Value) (wr : World) (i : Nat) : Prop where
  le : i ≤ 64
  k : k = .int .i64 (i : Int)
  mem : Mem w0 wr [.c b7 (wA (rndG (schL l) h i)) 44, .c b6 (wA kL) 137, .c b5 (wA (schL l)) 137, .c b4 (wA (zw 8)) 44, .c b2 (wA h) 44]
set_option maxRecDepth 100000 in
set_option maxHeartbeats 4000000 in
theorem block_full (v : Value) (l : List UInt8) (h : List UInt32) (hh : h.length = 8) (hl : l.length = 64) (w0 : World) (hI : Rd8 w0 v l) :
    Calls Try.prog 48 #[.agg (wA h), v] w0 fun e w' => e = .returned (.agg (wA (blkV h l))) ∧ Below w0.heap.size w0 w' := by
  have hg := schL_length l
  obtain ⟨a, cap, rfl⟩ := hI.shape
  rw [hl] at hI ⊢
  have HL := Lib.hid hl
  have HI := Lib.hid hI
  clear hl hI
  have C1 := constants_c
  have M := Mem.nil w0; have F := Mem.facts M; simp only [MemFacts] at F; (try simp only [ApartFacts] at F)
  go_enter Try.func48, Try.ntmps48
  go_wp2_with (first | (refine wl_alloc rfl 44 rfl octZ ?_; (try simp only [World.size_alloc])) | (refine wl_box rfl 44 _ rfl rfl ?_; (try simp only [World.size_alloc])) | (go_at_call 116; (refine (schedule_c _ _ HL.out _ (Flo.Rd8.below HI.out (Mem.below (w0 := w0) (by repeat' (first | (with_reducible exact M) | (with_reducible apply Mem.drew) | (with_reducible apply Mem.alloc') | (simp only [World.size_alloc]; exact rfl) | exact rfl))))).mono ?_); rintro e w1 ⟨rfl, hb⟩; replace M := Mem.call (w0 := w0) (by repeat' (first | (with_reducible exact M) | (with_reducible apply Mem.drew) | (with_reducible apply Mem.alloc))) hb; clear hb; (try clear F); (try simp only [World.size_alloc] at M); (try simp only [heap_drew] at M); have F := Mem.facts M; simp only [MemFacts] at F; (try simp only [ApartFacts] at F)) | (go_at_call 117; (refine (C1 _).mono ?_); rintro e w1 ⟨rfl, hb⟩; replace M := Mem.call (w0 := w0) (by repeat' (first | (with_reducible exact M) | (with_reducible apply Mem.drew) | (with_reducible apply Mem.alloc))) hb; clear hb; (try clear F); (try simp only [World.size_alloc] at M); (try simp only [heap_drew] at M); have F := Mem.facts M; simp only [MemFacts] at F; (try simp only [ApartFacts] at F)) | (refine wl_alloc rfl 137 rfl tabZ ?_; (try simp only [World.size_alloc])) | (refine wl_isStore 137 (.tmp 5) _ rfl ?_; refine wl_storeM (w0 := w0) rfl 137 (.tmp 5) _ rfl tabT rfl rfl 1 (by repeat' (first | (with_reducible exact M) | (with_reducible apply Mem.drew) | (with_reducible apply Mem.alloc') | (simp only [World.size_alloc]; exact rfl) | exact rfl)) (by rfl) (by first | (rw [wA_size]; exact hg) | (rw [bA_size]; exact hg) | exact hg | exact rfl) (by first | (rw [wA_size]; exact z64) | (rw [bA_size]; exact z64) | exact z64 | exact rfl) (by first | exact wA_one _ | exact bA_one _ | decide) ?_; clear M F; intro M; (try simp only [World.size_alloc, size_setRow] at M); (try simp only [List.set_cons_succ] at M); (try simp only [List.set_cons_zero] at M); have F := Mem.facts M; simp only [MemFacts] at F; (try simp only [ApartFacts] at F)) | (refine wl_isStore 137 (.tmp 6) _ rfl ?_; refine wl_storeM (w0 := w0) rfl 137 (.tmp 6) _ rfl tabT rfl rfl 0 (by repeat' (first | (with_reducible exact M) | (with_reducible apply Mem.drew) | (with_reducible apply Mem.alloc') | (simp only [World.size_alloc]; exact rfl) | exact rfl)) (by rfl) (by first | (rw [wA_size]; exact kL_length) | (rw [bA_size]; exact kL_length) | exact kL_length | exact rfl) (by first | (rw [wA_size]; exact z64) | (rw [bA_size]; exact z64) | exact z64 | exact rfl) (by first | exact wA_one _ | exact bA_one _ | decide) ?_; clear M F; intro M; (try simp only [World.size_alloc, size_setRow] at M); (try simp only [List.set_cons_succ] at M); (try simp only [List.set_cons_zero] at M); have F := Mem.facts M; simp only [MemFacts] at F; (try simp only [ApartFacts] at F)) | (refine wl_isLoad 44 (.tmp 2) rfl ?_; refine wl_load rfl 44 (.tmp 2) rfl octT rfl (Mem.at (w0 := w0) 3 (by repeat' (first | (with_reducible exact M) | (with_reducible apply Mem.drew) | (with_reducible apply Mem.alloc') | (simp only [World.size_alloc]; exact rfl) | exact rfl)) (by rfl)) (by first | (rw [wA_size]; exact hh) | (rw [bA_size]; exact hh) | exact hh | exact rfl) ?_) | (refine wl_isStore 44 (.tmp 7) _ rfl ?_; refine wl_storeM (w0 := w0) rfl 44 (.tmp 7) _ rfl octT rfl rfl 0 (by repeat' (first | (with_reducible exact M) | (with_reducible apply Mem.drew) | (with_reducible apply Mem.alloc') | (simp only [World.size_alloc]; exact rfl) | exact rfl)) (by rfl) (by first | (rw [wA_size]; exact hh) | (rw [bA_size]; exact hh) | exact hh | exact rfl) (by first | (rw [wA_size]; exact z8) | (rw [bA_size]; exact z8) | exact z8 | exact rfl) (by first | exact wA_one _ | exact bA_one _ | decide) ?_; clear M F; intro M; (try simp only [World.size_alloc, size_setRow] at M); (try simp only [List.set_cons_succ] at M); (try simp only [List.set_cons_zero] at M); have F := Mem.facts M; simp only [MemFacts] at F; (try simp only [ApartFacts] at F)))
  generalize w1.heap.size + 1 + 1 = b7 at M F ⊢
  generalize w1.heap.size + 1 = b6 at M F ⊢
  generalize w1.heap.size = b5 at M F ⊢
  go_loopw [21] (fun k wr => ∃ i, Blk1 l h w0 w0.heap.size (w0.heap.size + 1) b5 b6 b7 k wr i) (fun k _ => (64 - intOf k).toNat)
  case atStart => exact ⟨0, Nat.zero_le _, rfl, M⟩
  case round =>
    clear M F
    obtain ⟨i, le, rfl, M⟩ := hrel
    rcases Nat.lt_or_ge i 64 with hlt | hge
    · obtain ⟨a, b', c, d, e, f, g, k, hv⟩ := eight_of (rndG_length (schL l) h hh i)
      have hn : rndG (schL l) h (i + 1) = rndV (kL.getD i 0) ((schL l).getD i 0) [a, b', c, d, e, f, g, k] := by rw [← hv]; rfl
      rw [hv, wA8] at M
      have g1 := wA_get (l := kL) (i := i) hlt
      have g2 := wA_get (l := schL l) (i := i) (by rw [hg]; exact hlt)
      generalize kL.getD i 0 = kk at *
      generalize (schL l).getD i 0 = ww at *
      have HN := Lib.hid hn
      clear hn hv
      have F := Mem.facts M; simp only [MemFacts] at F; (try simp only [ApartFacts] at F)
      have hlt' : (i : Int) < 64 := by omega
      obtain ⟨ch, hch⟩ : ∃ x, x = chV e f g := ⟨_, rfl⟩
      have hc := chV_bits e f g
      obtain ⟨mj, hmj⟩ : ∃ x, x = majV a b' c := ⟨_, rfl⟩
      have hm := majV_bits a b' c
      rw [← hch] at hc
      rw [← hmj] at hm
      have HC := Lib.hid hch
      have HM := Lib.hid hmj
      clear hch hmj
      go_wp2
      ((try simp only [List.append_eq, List.cons_append, List.nil_append]); refine Flo.N.wp_made (by kernel_rfl) (by decide +kernel) ?_; (repeat (first | (refine Flo.N.sx_skip (by exact rfl) (by exact rfl) ?_; simp only [Act.put, List.setIfInBounds_toArray, List.set_cons_zero, List.set_cons_succ]) | (refine Flo.N.sx_pure (by exact rfl) (by exact rfl) (by exact rfl) ?_; intro K hK; go_big_quiet_op; go_big_quiet_on) | (refine Flo.N.sx_free (by exact rfl) (by exact rfl) (by exact rfl) (by exact rfl) ?_; intro K hK; go_big_quiet_op; go_big_quiet_on) | (apply Flo.N.sx_alloc (by exact rfl) (by exact rfl); (focus (intro w; go_simp; first | done | exact rfl | exact ⟨rfl, rfl⟩)); intro b hn hfr; (try have hne := Flo.Fresh.ne hfr); simp only [Act.put, List.setIfInBounds_toArray, List.set_cons_zero, List.set_cons_succ]) | (apply Flo.N.sx_build _ (by exact rfl) (by exact rfl); (focus (intro w; go_simp; first | done | exact rfl | exact ⟨rfl, rfl⟩)); intro b hn hfr; (try have hne := Flo.Fresh.ne hfr); simp only [Act.put, List.setIfInBounds_toArray, List.set_cons_zero, List.set_cons_succ]) | (apply Flo.N.sx_give (by exact rfl) (by exact rfl); (focus (intro w hbW hh; apply Flo.gives_of; intro G hG; go_simp; apply hG _ _ (by kernel_rfl); clear hG G; first | (have h3 : w.heap[b]? = some (.cells #[.int .i64 6, .int .i64 11, .int .i64 25] 3 (0, 0)) := (hh.made 4 b _ (by kernel_rfl) (by rfl)).2; exact turned_3 e 6 11 25 b 3 (by decide) (by decide) (by decide) w h3))); simp only [Act.put, List.setIfInBounds_toArray, List.set_cons_zero, List.set_cons_succ]) | (refine Flo.N.sx_last (by exact rfl) (by exact rfl) ?_; intro w2 hJ K hK; first | (have hJ : Flo.Holds _ _ _ _ := hJ; (try have HJB := Lib.hid hJ.below); (first | (have hu1 := Flo.Holds.uncover (by exact rfl) hJ; have hu2 := Flo.Holds.uncover (by exact rfl) hu1.2; replace M := Flo.N.got2 (w0 := w0) (by repeat' (first | (with_reducible exact M) | (with_reducible apply Mem.drew) | (with_reducible apply Mem.alloc))) hJ.below hu2.1 hu1.1 hne; clear hu1 hu2) | (have hu1 := Flo.Holds.uncover (by exact rfl) hJ; replace M := Mem.got (w0 := w0) (x := .c _ _ _) (by repeat' (first | (with_reducible exact M) | (with_reducible apply Mem.drew) | (with_reducible apply Mem.alloc))) hJ.below hu1.1; clear hu1) | (replace M := Mem.call (w0 := w0) (by repeat' (first | (with_reducible exact M) | (with_reducible apply Mem.drew) | (with_reducible apply Mem.alloc))) hJ.below) | (have hB2 := hJ.below)); clear hJ; (try clear F); (try simp only [World.size_alloc] at M); (try simp only [heap_drew] at M); (try (have F := Mem.facts M; simp only [MemFacts] at F; (try simp only [ApartFacts] at F))); go_wp2_with (fail); (try refine ⟨rfl, ?_⟩)) | (have hJ : w2 = _ := hJ; subst hJ; go_wp2_with (fail); (try refine ⟨rfl, ?_⟩))))); (first | (refine Flo.N.sx_end ?_) | (refine Flo.N.sx_nil ?_; intro w2 hJ; (try have HJB := Lib.hid hJ.below); (first | (have hu1 := Flo.Holds.uncover (by exact rfl) hJ; have hu2 := Flo.Holds.uncover (by exact rfl) hu1.2; replace M := Flo.N.got2 (w0 := w0) (by repeat' (first | (with_reducible exact M) | (with_reducible apply Mem.drew) | (with_reducible apply Mem.alloc))) hJ.below hu2.1 hu1.1 hne; clear hu1 hu2) | (have hu1 := Flo.Holds.uncover (by exact rfl) hJ; replace M := Mem.got (w0 := w0) (x := .c _ _ _) (by repeat' (first | (with_reducible exact M) | (with_reducible apply Mem.drew) | (with_reducible apply Mem.alloc))) hJ.below hu1.1; clear hu1) | (replace M := Mem.call (w0 := w0) (by repeat' (first | (with_reducible exact M) | (with_reducible apply Mem.drew) | (with_reducible apply Mem.alloc))) hJ.below) | (have hB2 := hJ.below)); clear hJ; (try clear F); (try simp only [World.size_alloc] at M); (try simp only [heap_drew] at M); (try (have F := Mem.facts M; simp only [MemFacts] at F; (try simp only [ApartFacts] at F))))))
      rw [t_val]
      obtain ⟨t, ht⟩ : ∃ x, x = k + turnV e [6, 11, 25] + ch + kk + ww := ⟨_, rfl⟩
      rw [← ht]
      have HT := Lib.hid ht
      clear ht hc hm
      replace M := M.pick [1, 2, 3, 4, 5] (by decide)
      simp only [List.filterMap_cons, List.getElem?_cons_succ, List.getElem?_cons_zero, List.filterMap_nil] at M
      clear F
      have F := Mem.facts M; simp only [MemFacts] at F; (try simp only [ApartFacts] at F)
      go_wp2
      ((try simp only [List.append_eq, List.cons_append, List.nil_append]); refine Flo.N.wp_made (by kernel_rfl) (by decide +kernel) ?_; (repeat (first | (refine Flo.N.sx_skip (by exact rfl) (by exact rfl) ?_; simp only [Act.put, List.setIfInBounds_toArray, List.set_cons_zero, List.set_cons_succ]) | (refine Flo.N.sx_pure (by exact rfl) (by exact rfl) (by exact rfl) ?_; intro K hK; go_big_quiet_op; go_big_quiet_on) | (refine Flo.N.sx_free (by exact rfl) (by exact rfl) (by exact rfl) (by exact rfl) ?_; intro K hK; go_big_quiet_op; go_big_quiet_on) | (apply Flo.N.sx_alloc (by exact rfl) (by exact rfl); (focus (intro w; go_simp; first | done | exact rfl | exact ⟨rfl, rfl⟩)); intro b hn hfr; (try have hne := Flo.Fresh.ne hfr); simp only [Act.put, List.setIfInBounds_toArray, List.set_cons_zero, List.set_cons_succ]) | (apply Flo.N.sx_build _ (by exact rfl) (by exact rfl); (focus (intro w; go_simp; first | done | exact rfl | exact ⟨rfl, rfl⟩)); intro b hn hfr; (try have hne := Flo.Fresh.ne hfr); simp only [Act.put, List.setIfInBounds_toArray, List.set_cons_zero, List.set_cons_succ]))))
      (refine Flo.N.sx_last (by exact rfl) (by exact rfl) ?_; intro w2 hJ K hK; have hJ : Flo.Holds _ _ _ _ := hJ; (try have HJB := Lib.hid hJ.below); (first | (have hu1 := Flo.Holds.uncover (by exact rfl) hJ; have hu2 := Flo.Holds.uncover (by exact rfl) hu1.2; replace M := Flo.N.got2 (w0 := w0) (by repeat' (first | (with_reducible exact M) | (with_reducible apply Mem.drew) | (with_reducible apply Mem.alloc))) hJ.below hu2.1 hu1.1 hne; clear hu1 hu2) | (have hu1 := Flo.Holds.uncover (by exact rfl) hJ; replace M := Mem.got (w0 := w0) (x := .c _ _ _) (by repeat' (first | (with_reducible exact M) | (with_reducible apply Mem.drew) | (with_reducible apply Mem.alloc))) hJ.below hu1.1; clear hu1) | (replace M := Mem.call (w0 := w0) (by repeat' (first | (with_reducible exact M) | (with_reducible apply Mem.drew) | (with_reducible apply Mem.alloc))) hJ.below) | (have hB2 := hJ.below)); clear hJ; (try clear F); (try simp only [World.size_alloc] at M); (try simp only [heap_drew] at M); (try (have F := Mem.facts M; simp only [MemFacts] at F; (try simp only [ApartFacts] at F))))
      clear hJ
      refine op_copyM (w0 := w0) _ _ 102 102 rfl Try.underlying102 (by kernel_rfl) rfl rfl 0 M rfl [.int .u32 (a.toNat : Int), .int .u32 (b'.toNat : Int), .int .u32 (c.toNat : Int), .int .u32 (d.toNat : Int), .int .u32 (e.toNat : Int), .int .u32 (f.toNat : Int), .int .u32 (g.toNat : Int)] rfl ?_ (by simp) (by simp [Value.oneCell']) #[.int .u32 (a.toNat : Int), .int .u32 (a.toNat : Int), .int .u32 (b'.toNat : Int), .int .u32 (c.toNat : Int), .int .u32 (d.toNat : Int), .int .u32 (e.toNat : Int), .int .u32 (f.toNat : Int), .int .u32 (g.toNat : Int)] rfl ?_
      · intro j v hv
        rw [addr_add, cell_of_row w2 b7 j _ _ _ (M.at 0 rfl)]
        exact pre_get (L := [.int .u32 (a.toNat : Int), .int .u32 (b'.toNat : Int), .int .u32 (c.toNat : Int), .int .u32 (d.toNat : Int), .int .u32 (e.toNat : Int), .int .u32 (f.toNat : Int), .int .u32 (g.toNat : Int), .int .u32 (k.toNat : Int)]) (k := 7) hv
      clear M F
      intro M
      simp only [List.set_cons_zero] at M
      refine hK _ _ ⟨rfl, ?_⟩
      clear hK
      clear K
      refine Flo.N.sx_end ?_
      ((try clear F); obtain ⟨wg, eg, M⟩ : ∃ wg, wg = _ ∧ Mem w0 wg _ := ⟨_, rfl, M⟩; (try unfold Flo.put4 at eg); rw [← eg]; clear eg; have F := Mem.facts M; simp only [MemFacts] at F; (try simp only [ApartFacts] at F))
      obtain ⟨y, hy⟩ : ∃ x, x = d + t := ⟨_, rfl⟩
      have hd := u32_add d t
      rw [← hy] at hd
      have HY := Lib.hid hy
      clear hy
      go_wp2_with (go_at_call 118; refine (turned_3 a 2 13 22 _ 3 (by decide) (by decide) (by decide) _ (heap_alloc_at _ _ _ (by simp))).mono ?_; rintro e w1 ⟨rfl, hb⟩; replace M := Mem.call (w0 := w0) (Mem.alloc (M.put 0 rfl 4 (.int .u32 (y.toNat : Int)))) hb; clear hb F; replace M := M.pick [1, 2, 3, 4, 5] (by decide); simp only [List.filterMap_cons, List.getElem?_cons_succ, List.getElem?_cons_zero, List.filterMap_nil, List.set_cons_zero] at M; have F := Mem.facts M; simp only [MemFacts] at F; (try simp only [ApartFacts] at F))
      rw [u32_add3]
      have M2 := M.put 0 rfl 0 (.int .u32 ((t + turnV a [2, 13, 22] + mj).toNat : Int))
      have e9 : rndG (schL l) h (i + 1) = [t + turnV a [2, 13, 22] + mj, a, b', c, y, e, f, g] := by
        rw [HN.out, HY.out, HT.out, HM.out, HC.out]; rfl
      refine ⟨⟨i + 1, by omega, by simp, ?_⟩, by simp only [intOf]; omega⟩
      rw [e9, wA8]
      exact M2
    · obtain rfl : i = 64 := by omega
      have hr := rndG_length (schL l) h hh 64
      obtain ⟨v, hv⟩ : ∃ v, v = rndG (schL l) h 64 := ⟨_, rfl⟩
      rw [← hv] at hr M
      have HV := Lib.hid hv
      clear hv
      rw [show ((64 : Nat) : Int) = 64 from rfl]
      have F := Mem.facts M; simp only [MemFacts] at F; (try simp only [ApartFacts] at F)
      go_wp2
      rw [← mixL_zero v h] at M
      go_loopw [84] (fun k wr => ∃ t, Blk2 l h v w0 w0.heap.size (w0.heap.size + 1) b5 b6 b7 k wr t) (fun k _ => (8 - intOf k).toNat)
      case atStart => exact ⟨0, Nat.zero_le _, rfl, M⟩
      case round =>
        clear M F
        obtain ⟨t, le, rfl, M⟩ := hrel
        rcases Nat.lt_or_ge t 8 with hlt | hge
        · have g1 := wA_get (l := mixL v h t) (i := t) (by rw [mixL_length v h t hr hh (by omega)]; exact hlt)
          have g2 := wA_get (l := h) (i := t) (by rw [hh]; exact hlt)
          rw [mixL_at v h t hr hh hlt] at g1
          have hn := mixL_next v h t hr hh hlt
          have hx := u32_add (v.getD t 0) (h.getD t 0)
          generalize v.getD t 0 + h.getD t 0 = z at *
          generalize v.getD t 0 = x at *
          generalize h.getD t 0 = y at *
          have HN := Lib.hid hn
          clear hn
          have F := Mem.facts M; simp only [MemFacts] at F; (try simp only [ApartFacts] at F)
          have hlt' : (t : Int) < 8 := by omega
          go_wp2
          (refine Flo.wp_region_auto (fun _ => True) Flo.rd (by kernel_rfl) (by decide +kernel) (trivial) ?_; repeat (first | (refine Flo.au_skip (by exact rfl) (by exact rfl) ?_; simp only [Act.put, List.setIfInBounds_toArray, List.set_cons_zero, List.set_cons_succ]) | (refine Flo.au_free (by exact rfl) (by exact rfl) (by exact rfl) ?_; intro K hK; go_big_quiet_op; go_big_quiet_on) | (refine Flo.au_still (by exact rfl) (by exact rfl) (by exact rfl) ?_; intro K hK; go_simp; refine hK _ ?_; clear hK K) | (refine Flo.au_move (by exact rfl) (by exact rfl) ?_; intro K hK; go_wp2_with (fail); try (with_reducible refine ⟨rfl, trivial, ?_⟩)) | (refine Flo.mix_nil ?_)))
          go_wp2
          have M2 := (M.put 0 rfl t (.int .u32 (z.toNat : Int))).drew
          rw [wA_set, ← HN.out] at M2
          exact ⟨⟨t + 1, by omega, by simp, M2⟩, by simp only [intOf]; omega⟩
        · obtain rfl : t = 8 := by omega
          rw [mixL_end v h hr hh] at M
          have hz : (List.zipWith (· + ·) v h).length = 8 := by rw [List.length_zipWith, hr, hh]; rfl
          have F := Mem.facts M; simp only [MemFacts] at F; (try simp only [ApartFacts] at F)
          go_wp2_with (first | (refine wl_isLoad 44 (.tmp 7) rfl ?_; refine wl_load rfl 44 (.tmp 7) rfl octT rfl (Mem.at (w0 := w0) 0 (by repeat' (first | (with_reducible exact M) | (with_reducible apply Mem.drew) | (with_reducible apply Mem.alloc') | (simp only [World.size_alloc]; exact rfl) | exact rfl)) (by rfl)) (by first | (rw [wA_size]; exact hz) | (rw [bA_size]; exact hz) | exact hz | exact rfl) ?_) | (refine wl_isStore 44 (.tmp 4) _ rfl ?_; refine wl_storeM (w0 := w0) rfl 44 (.tmp 4) _ rfl octT rfl rfl 3 (by repeat' (first | (with_reducible exact M) | (with_reducible apply Mem.drew) | (with_reducible apply Mem.alloc') | (simp only [World.size_alloc]; exact rfl) | exact rfl)) (by rfl) (by first | (rw [wA_size]; exact hz) | (rw [bA_size]; exact hz) | exact hz | exact rfl) (by first | (rw [wA_size]; exact z8) | (rw [bA_size]; exact z8) | exact z8 | exact rfl) (by first | exact wA_one _ | exact bA_one _ | decide) ?_; clear M F; intro M; (try simp only [World.size_alloc, size_setRow] at M); (try simp only [List.set_cons_succ] at M); (try simp only [List.set_cons_zero] at M); have F := Mem.facts M; simp only [MemFacts] at F; (try simp only [ApartFacts] at F)))
          refine bodyPost_ret (results_cell_row Try.results48 _ _ _ 44 (wA (List.zipWith (· + ·) v h)) (0, 0) _ rfl (M.at 3 rfl) octT.under rfl (by rw [wA_size, hz]; exact octT.size)) rfl ⟨?_, M.below⟩
          unfold blkV
          rw [if_pos HL.out, HV.out]
theorem block_c (v : Value) (l : List UInt8) (h : List UInt32) (hh : h.length = 8) (w0 : World) (hI : Rd8 w0 v l) :
    Calls Try.prog 48 #[.agg (wA h), v] w0 fun e w' => e = .returned (.agg (wA (blkV h l))) ∧ Below w0.heap.size w0 w' := by
  by_cases hl : l.length = 64
  · exact block_full v l h hh hl w0 hI
  · have := block_short v l h hh hl w0 hI
    have e : blkV h l = h := by unfold blkV; rw [if_neg hl]
    rw [e]
    exact this
end Go.Proofs.Ytkgjgdeaclefiaa
