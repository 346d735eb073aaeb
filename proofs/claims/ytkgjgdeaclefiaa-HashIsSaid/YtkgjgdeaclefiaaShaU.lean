/-
  florinref02: End, Sum, Double; florinlaw02.ours.
-/
import Derived.Test.YtkgjgdeaclefiaaShaT
import Derived.Test.YtkgjgdeaclefiaaShaJ
namespace Go.Proofs.Ytkgjgdeaclefiaa
open Go Go.Proofs Go.RowKit Go.Flo

set_option maxRecDepth 100000 in
theorem rend_c (V : Value) (s : ShaS) (w0 : World) (hV : RdS w0 V s) :
    Calls Try.prog 54 #[V] w0 fun o w' => o = .returned (.agg (bA (endS s))) ∧ Below w0.heap.size w0 w' := by
  have SC := fun w (hb : Below w0.heap.size w0 w) => rsane_c V s w (hV.below hb)
  obtain ⟨⟨a, b, c, d, e, f, g, k, v, rfl, hs, hr⟩, hn, hl⟩ := hV
  unfold endS
  cases hq : saneS s with
  | true =>
    have hf : fixS s = s := by unfold fixS; rw [if_pos hq]
    rw [hf]
    rw [hq] at SC
    refine rend_main a b c d e f g k a b c d e f g k v v s.n s.n true s.rest _ w0 SC (.inl ⟨rfl, rfl, rfl, rfl, rfl, rfl, rfl, rfl, rfl, rfl, rfl⟩) hr (fun w => rpad_c s.n hn w) fun w p hb hp => ?_
    exact rwrite_c _ p s (padV s.n) (padV_length _) w ⟨⟨a, b, c, d, e, f, g, k, v, rfl, hs, hr.below hb⟩, hn, hl⟩ hp
  | false =>
    have hf : fixS s = startS := by unfold fixS; rw [if_neg (by rw [hq]; decide)]
    rw [hf]
    rw [hq] at SC
    refine rend_main a b c d e f g k _ _ _ _ _ _ _ _ v (.slice none 0 0) s.n 0 false [] _ w0 SC (.inr ⟨rfl, rstart_g⟩) (rd8_nil _ _ _) (fun w => rpad_c 0 (by decide) w) fun w p hb hp => ?_
    exact rwrite_c startC p startS (padV 0) (padV_length _) w (rdS_start w) hp
set_option maxRecDepth 100000 in
set_option maxHeartbeats 2000000 in
theorem rsum_c (v : Value) (l : List UInt8) (hl : l.length ≤ 1000000) (w0 : World) (hI : Rd8 w0 v l) :
    Calls Try.prog 49 #[v] w0 fun e w' => e = .returned (.agg (bA (sumV l))) ∧ Below w0.heap.size w0 w' := by
  obtain ⟨a, cap, rfl⟩ := hI.shape
  have HI := Lib.hid hI
  have HL := Lib.hid hl
  clear hI hl
  have hs : (endS (writeS startS l)).length = 32 := sumV_length l
  have M := Mem.nil w0; have F := Mem.facts M; simp only [MemFacts] at F; (try simp only [ApartFacts] at F)
  go_enter Try.func49, Try.ntmps49
  go_wp2_with (first | (refine wl_box rfl 23 _ rfl rfl ?_) | (refine wl_alloc rfl 23 rfl hshZ ?_) | (go_at_call 58; (with_reducible refine (rstart_g _).mono ?_); rintro o w1 ⟨rfl, hb⟩; replace M := Mem.call (w0 := w0) (by repeat' (first | (with_reducible exact M) | (with_reducible apply Mem.drew) | (with_reducible apply Mem.alloc))) hb; clear hb; (try clear F); (try simp only [World.size_alloc] at M); (try simp only [heap_drew] at M); have F := Mem.facts M; simp only [MemFacts] at F; (try simp only [ApartFacts] at F)) | (go_at_call 53; refine (rwrite_c _ _ startS l HL.out _ (rdS_start _) (HI.out.below (Mem.below (w0 := w0) (by repeat' (first | (with_reducible exact M) | (with_reducible apply Mem.drew) | (with_reducible apply Mem.alloc') | (simp only [World.size_alloc]; exact rfl) | exact rfl))))).mono ?_; rintro o w1 ⟨V2, rfl, hV2, hb⟩; replace M := Mem.call (w0 := w0) (by repeat' (first | (with_reducible exact M) | (with_reducible apply Mem.drew) | (with_reducible apply Mem.alloc))) hb; clear hb; (try clear F); (try simp only [World.size_alloc] at M); (try simp only [heap_drew] at M); have F := Mem.facts M; simp only [MemFacts] at F; (try simp only [ApartFacts] at F)) | (go_at_call 54; refine (rend_c _ _ _ hV2).mono ?_; rintro o w1 ⟨rfl, hb⟩; replace M := Mem.call (w0 := w0) (by repeat' (first | (with_reducible exact M) | (with_reducible apply Mem.drew) | (with_reducible apply Mem.alloc))) hb; clear hb; (try clear F); (try simp only [World.size_alloc] at M); (try simp only [heap_drew] at M); have F := Mem.facts M; simp only [MemFacts] at F; (try simp only [ApartFacts] at F)) | (refine wl_isStore 23 (.tmp 2) _ rfl ?_; refine wl_storeM (w0 := w0) rfl 23 (.tmp 2) _ rfl hshT rfl rfl 0 (by repeat' (first | (with_reducible exact M) | (with_reducible apply Mem.drew) | (with_reducible apply Mem.alloc') | (simp only [World.size_alloc]; exact rfl) | exact rfl)) (by rfl) (by first | (rw [wA_size]; exact hs) | (rw [bA_size]; exact hs) | exact hs | exact rfl) (by first | (rw [wA_size]; exact nought_length) | (rw [bA_size]; exact nought_length) | exact nought_length | exact rfl) (by first | exact wA_one _ | exact bA_one _ | decide) ?_; clear M F; intro M; (try simp only [World.size_alloc, size_setRow] at M); (try simp only [List.set_cons_succ] at M); (try simp only [List.set_cons_zero] at M); have F := Mem.facts M; simp only [MemFacts] at F; (try simp only [ApartFacts] at F)))
  refine bodyPost_ret (results_cell_row Try.results49 _ _ _ 23 (bA (endS (writeS startS l))) (0, 0) _ rfl (M.at 0 rfl) hshT.under rfl (by rw [bA_size, hs]; exact hshT.size)) rfl ⟨rfl, M.below⟩
set_option maxRecDepth 100000 in
set_option maxHeartbeats 2000000 in
theorem rdouble_c (v : Value) (l : List UInt8) (hl : l.length ≤ 1000000) (w0 : World) (hI : Rd8 w0 v l) :
    Calls Try.prog 51 #[v] w0 fun e w' => e = .returned (.agg (bA (dblV l))) ∧ Below w0.heap.size w0 w' := by
  have HI := Lib.hid hI
  have HL := Lib.hid hl
  clear hI hl
  have h1 : (sumV l).length = 32 := sumV_length l
  have h2 : (sumV (sumV l)).length = 32 := sumV_length _
  have M := Mem.nil w0; have F := Mem.facts M; simp only [MemFacts] at F; (try simp only [ApartFacts] at F)
  go_enter Try.func51, Try.ntmps51
  go_wp2_with (first | (refine wl_box rfl 23 _ rfl rfl ?_) | (refine wl_alloc rfl 23 rfl hshZ ?_) | (go_at_call 49; (first | refine (rsum_c _ l HL.out _ (HI.out.below (Mem.below (w0 := w0) (by repeat' (first | (with_reducible exact M) | (with_reducible apply Mem.drew) | (with_reducible apply Mem.alloc') | (simp only [World.size_alloc]; exact rfl) | exact rfl))))).mono ?_ | refine (rsum_c _ (sumV l) (by rw [h1]; decide) _ (Mem.rd8 (w0 := w0) 0 (by repeat' (first | (with_reducible exact M) | (with_reducible apply Mem.drew) | (with_reducible apply Mem.alloc') | (simp only [World.size_alloc]; exact rfl) | exact rfl)) (by rfl) h1 (by decide))).mono ?_); rintro o w1 ⟨rfl, hb⟩; replace M := Mem.call (w0 := w0) (by repeat' (first | (with_reducible exact M) | (with_reducible apply Mem.drew) | (with_reducible apply Mem.alloc))) hb; clear hb; (try clear F); (try simp only [World.size_alloc] at M); (try simp only [heap_drew] at M); have F := Mem.facts M; simp only [MemFacts] at F; (try simp only [ApartFacts] at F)) | (refine wl_isStore 23 (.tmp 3) _ rfl ?_; refine wl_storeM (w0 := w0) rfl 23 (.tmp 3) _ rfl hshT rfl rfl 0 (by repeat' (first | (with_reducible exact M) | (with_reducible apply Mem.drew) | (with_reducible apply Mem.alloc') | (simp only [World.size_alloc]; exact rfl) | exact rfl)) (by rfl) (by first | (rw [wA_size]; exact h1) | (rw [bA_size]; exact h1) | exact h1 | exact rfl) (by first | (rw [wA_size]; exact nought_length) | (rw [bA_size]; exact nought_length) | exact nought_length | exact rfl) (by first | exact wA_one _ | exact bA_one _ | decide) ?_; clear M F; intro M; (try simp only [World.size_alloc, size_setRow] at M); (try simp only [List.set_cons_succ] at M); (try simp only [List.set_cons_zero] at M); have F := Mem.facts M; simp only [MemFacts] at F; (try simp only [ApartFacts] at F)) | (refine wl_isStore 23 (.tmp 2) _ rfl ?_; refine wl_storeM (w0 := w0) rfl 23 (.tmp 2) _ rfl hshT rfl rfl 1 (by repeat' (first | (with_reducible exact M) | (with_reducible apply Mem.drew) | (with_reducible apply Mem.alloc') | (simp only [World.size_alloc]; exact rfl) | exact rfl)) (by rfl) (by first | (rw [wA_size]; exact h2) | (rw [bA_size]; exact h2) | exact h2 | exact rfl) (by first | (rw [wA_size]; exact nought_length) | (rw [bA_size]; exact nought_length) | exact nought_length | exact rfl) (by first | exact wA_one _ | exact bA_one _ | decide) ?_; clear M F; intro M; (try simp only [World.size_alloc, size_setRow] at M); (try simp only [List.set_cons_succ] at M); (try simp only [List.set_cons_zero] at M); have F := Mem.facts M; simp only [MemFacts] at F; (try simp only [ApartFacts] at F)))
  refine bodyPost_ret (results_cell_row Try.results51 _ _ _ 23 (bA (sumV (sumV l))) (0, 0) _ rfl (M.at 1 rfl) hshT.under rfl (by rw [bA_size, h2]; exact hshT.size)) rfl ⟨rfl, M.below⟩
set_option maxRecDepth 100000 in
set_option maxHeartbeats 2000000 in
theorem ours_c (V : Value) (s : ShaS) (w0 : World) (hV : RdS w0 V s) : Calls Try.prog 52 #[V] w0 fun e w' => e = .returned V ∧ Below w0.heap.size w0 w' := by
  obtain ⟨⟨a, b, c, d, e, f, g, k, v, rfl, hs, hr⟩, hn, hl⟩ := hV
  obtain ⟨p, cap, rfl⟩ := hr.shape
  clear hr hs hn hl
  generalize s.n = n at *
  generalize s.rest.length = m at *
  have M := Mem.nil w0; have F := Mem.facts M; simp only [MemFacts] at F; (try simp only [ApartFacts] at F)
  go_enter Try.func52, Try.ntmps52
  go_wp2
  have M2 := (Mem.alloc (Mem.alloc M (cs := #[.int .u32 (a.toNat : Int), .int .u32 (b.toNat : Int), .int .u32 (c.toNat : Int), .int .u32 (d.toNat : Int), .int .u32 (e.toNat : Int), .int .u32 (f.toNat : Int), .int .u32 (g.toNat : Int), .int .u32 (k.toNat : Int), .slice p m cap, .int .u64 (n : Int)]) (t := 52)) (cs := #[.int .u32 (a.toNat : Int), .int .u32 (b.toNat : Int), .int .u32 (c.toNat : Int), .int .u32 (d.toNat : Int), .int .u32 (e.toNat : Int), .int .u32 (f.toNat : Int), .int .u32 (g.toNat : Int), .int .u32 (k.toNat : Int), .slice p m cap, .int .u64 (n : Int)]) (t := 46))
  refine bodyPost_ret (v := st10 a b c d e f g k (.slice p m cap) n) (by simp [results, Try.results52, go_sem]) rfl ⟨rfl, M2.below⟩
end Go.Proofs.Ytkgjgdeaclefiaa
