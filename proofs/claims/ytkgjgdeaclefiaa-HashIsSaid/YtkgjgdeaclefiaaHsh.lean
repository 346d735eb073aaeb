import Derived.Test.YtkgjgdeaclefiaaLx
import Derived.BigQuiet
import Derived.LoopTactic
import Derived.Test.YtkgjgdeaclefiaaProg
import Derived.Test.YtkgjgdeaclefiaaNb
import Derived.Test.YtkgjgdeaclefiaaUa

/-! slices.Reverse at []byte. -/
namespace Go.Proofs.Ytkgjgdeaclefiaa
open Go Go.Proofs Go.RowKit Go.Flo

/-- What stands at place k when t rounds are over. -/
def revF (l : List UInt8) (t k : Nat) : UInt8 := if k < t ∨ l.length - 1 - k < t then l[l.length - 1 - k]?.getD 0 else l[k]?.getD 0
theorem rev_start (l : List UInt8) : tab l.length (revF l 0) = l := by
  refine (tab_ext rfl fun i hi => ?_).symm
  unfold revF
  rw [if_neg (by omega)]
  simp [hi]
theorem rev_end (l : List UInt8) {t : Nat} (h : l.length ≤ 2 * t + 1) : tab l.length (revF l t) = l.reverse := by
  refine (tab_ext (by simp) fun i hi => ?_).symm
  rw [List.length_reverse] at hi
  unfold revF
  by_cases hc : i < t ∨ l.length - 1 - i < t
  · rw [if_pos hc, List.getElem_reverse]
    simp [show l.length - 1 - i < l.length by omega]
  · rw [if_neg hc, List.getElem_reverse]
    have : l.length - 1 - i = i := by omega
    simp [this, hi]
theorem revF_next (l : List UInt8) {t s : Nat} (h : 2 * t + 1 < l.length) (hs : s = l.length - 1 - t) : ∀ j, j < l.length → (if j = s then revF l t t else if j = t then revF l t s else revF l t j) = revF l (t + 1) j := by
  intro j hj
  have e1 : revF l t t = l[t]?.getD 0 := by unfold revF; rw [if_neg (by omega)]
  have e2 : revF l t s = l[s]?.getD 0 := by unfold revF; rw [if_neg (by omega)]
  by_cases h1 : j = s
  · rw [if_pos h1, e1]
    unfold revF
    rw [if_pos (by omega), show l.length - 1 - j = t by omega]
  · rw [if_neg h1]
    by_cases h2 : j = t
    · rw [if_pos h2, e2]
      unfold revF
      rw [if_pos (by omega), show l.length - 1 - j = s by omega]
    · rw [if_neg h2]
      unfold revF
      by_cases h3 : j < t ∨ l.length - 1 - j < t
      · rw [if_pos h3, if_pos (by omega)]
      · rw [if_neg h3, if_neg (by omega)]
structure RevR (b n : Nat) (T : TypeId) (l : List UInt8) (w0 : World) (i j : Value) (wr : World) (t : Nat) : Prop where
  le : 2 * t ≤ n + 1
  at_ : i = .int .i64 (t : Int)
  at2 : j = .int .i64 ((n : Int) - 1 - t)
  blk : wr.heap[b]? = some (.cells (bA (tab n (revF l t))) T (0, 0))
  gr : w0.grownBy wr (some b)

theorem grown_below {w w' w2 : World} {row : Option Nat} (h : w.grownBy w' row) (hb : Below w'.heap.size w' w2) : w.grownBy w2 row :=
  ⟨hb.os.trans h.os, hb.tape.trans h.tape, hb.output.trans h.output, Nat.le_trans h.size hb.size, fun k hk hr => (hb.block k (Nat.lt_of_lt_of_le hk h.size)).trans (h.block k hk hr)⟩
theorem grown_set {w w' : World} {b : Nat} (h : w.grownBy w' (some b)) (j : Nat) (v : Value) : w.grownBy (w'.setCell ⟨b, j, none⟩ v) (some b) :=
  ⟨h.os, h.tape, h.output, by have := h.size; simpa using this, fun k hk hr => (heap_setCell_get w' ⟨b, j, none⟩ v k (fun e => hr (by rw [e]))).trans (h.block k hk hr)⟩

set_option maxRecDepth 100000 in
set_option maxHeartbeats 4000000 in
theorem rev_c (b n : Nat) (T : TypeId) (l : List UInt8) (hn : l.length = n) (h64 : n ≤ 1000000) (w0 : World) (hg : w0.heap[b]? = some (.cells (bA l) T (0, 0))) :
    Calls Try.prog 111 #[.slice (some ⟨b, 0, none⟩) n n] w0 fun e w' => e = .returned (.tuple #[]) ∧ w0.grownBy w' (some b) ∧ w'.heap[b]? = some (.cells (bA l.reverse) T (0, 0)) := by
  have HN := Lib.hid hn
  have HG := Lib.hid hg
  clear hg hn
  go_enter Try.func111, Try.ntmps111
  go_wp2
  go_loopw [2, 3] (fun i j wr => ∃ t, RevR b n T l w0 i j wr t) (fun i j _ => (intOf j - intOf i + 2).toNat)
  case atStart => exact ⟨0, by omega, rfl, by simp, by rw [← HN.out, rev_start]; exact HG.out, ⟨rfl, rfl, rfl, Nat.le_refl _, fun _ _ _ => rfl⟩⟩
  case round =>
    obtain ⟨t, le, rfl, rfl, blk, gr⟩ := hrel
    have Blk := Lib.hid blk
    rcases Nat.lt_or_ge (2 * t + 1) n with hlt | hge
    · obtain ⟨s, hs⟩ : ∃ s, s = n - 1 - t := ⟨_, rfl⟩
      have es : (n : Int) - 1 - t = (s : Int) := by omega
      rw [es]
      have hts : (t : Int) < (s : Int) := by omega
      have hsn : (s : Int) < (n : Int) := by omega
      have htn : (t : Int) < (n : Int) := by omega
      have hlen : (tab n (revF l t)).length = n := tab_length _ _
      have c0 := cell_of_row wr b t _ _ _ blk
      have c1 := cell_of_row wr b s _ _ _ blk
      rw [bA_get (by rw [hlen]; omega)] at c0 c1
      have fz := fun j => frozen_of_row wr b j _ _ blk
      have hbl := heap_lt blk
      have HS := Lib.hid hs
      clear blk hs hlen es
      go_wp2
      ((try simp only [List.append_eq, List.cons_append, List.nil_append]); refine Flo.N.wp_made (by kernel_rfl) (by decide +kernel) ?_; (repeat (first | (refine Flo.N.sx_skip (by exact rfl) (by exact rfl) ?_; simp only [Act.put, List.setIfInBounds_toArray, List.set_cons_zero, List.set_cons_succ]) | (refine Flo.N.sx_pure (by exact rfl) (by exact rfl) (by exact rfl) ?_; intro K hK; go_big_quiet_op; go_big_quiet_on) | (refine Flo.N.sx_free (by exact rfl) (by exact rfl) (by exact rfl) (by exact rfl) ?_; intro K hK; go_big_quiet_op; go_big_quiet_on) | (apply Flo.N.sx_alloc (by exact rfl) (by exact rfl); (focus (intro w; go_simp; first | done | exact rfl | exact ⟨rfl, rfl⟩)); intro b hn hfr; (try have hne := Flo.Fresh.ne hfr); simp only [Act.put, List.setIfInBounds_toArray, List.set_cons_zero, List.set_cons_succ]) | (apply Flo.N.sx_build _ (by exact rfl) (by exact rfl); (focus (intro w; go_simp; first | done | exact rfl | exact ⟨rfl, rfl⟩)); intro b hn hfr; (try have hne := Flo.Fresh.ne hfr); simp only [Act.put, List.setIfInBounds_toArray, List.set_cons_zero, List.set_cons_succ]) | (apply Flo.N.sx_give (by exact rfl) (by exact rfl); (focus (intro w hbW hh; apply Flo.gives_of; intro G hG; go_simp; apply hG _ _ (by kernel_rfl); clear hG G; first | fail)); simp only [Act.put, List.setIfInBounds_toArray, List.set_cons_zero, List.set_cons_succ]) | (refine Flo.N.sx_last (by exact rfl) (by exact rfl) ?_; intro w2 hJ K hK; first | (have hJ : Flo.Holds _ _ _ _ := hJ; (try have HJB := Lib.hid hJ.below); (first | (have hu1 := Flo.Holds.uncover (by exact rfl) hJ; have hu2 := Flo.Holds.uncover (by exact rfl) hu1.2; replace M := Flo.N.got2 (w0 := w0) (by repeat' (first | (with_reducible exact M) | (with_reducible apply Mem.drew) | (with_reducible apply Mem.alloc))) hJ.below hu2.1 hu1.1 hne; clear hu1 hu2) | (have hu1 := Flo.Holds.uncover (by exact rfl) hJ; replace M := Mem.got (w0 := w0) (x := .c _ _ _) (by repeat' (first | (with_reducible exact M) | (with_reducible apply Mem.drew) | (with_reducible apply Mem.alloc))) hJ.below hu1.1; clear hu1) | (replace M := Mem.call (w0 := w0) (by repeat' (first | (with_reducible exact M) | (with_reducible apply Mem.drew) | (with_reducible apply Mem.alloc))) hJ.below) | (have hB2 := hJ.below)); clear hJ; (try clear F); (try simp only [World.size_alloc] at M); (try simp only [heap_drew] at M); (try (have F := Mem.facts M; simp only [MemFacts] at F; (try simp only [ApartFacts] at F))); (try (have g0 := hB2.block b hbl; have g1 := (hB2.cell (p := ⟨b, t, none⟩) hbl).trans c0; have g2 := (hB2.cell (p := ⟨b, s, none⟩) hbl).trans c1; have g3 := fun j => (hB2.frozen (p := ⟨b, j, none⟩) hbl).trans (fz j); have g4 := Nat.lt_of_lt_of_le hbl hB2.size; have GB := Lib.hid hB2; clear hB2)); go_wp2_with (fail); (try refine ⟨rfl, ?_⟩)) | (have hJ : w2 = _ := hJ; subst hJ; (try (have g0 := hB2.block b hbl; have g1 := (hB2.cell (p := ⟨b, t, none⟩) hbl).trans c0; have g2 := (hB2.cell (p := ⟨b, s, none⟩) hbl).trans c1; have g3 := fun j => (hB2.frozen (p := ⟨b, j, none⟩) hbl).trans (fz j); have g4 := Nat.lt_of_lt_of_le hbl hB2.size; have GB := Lib.hid hB2; clear hB2)); go_wp2_with (fail); (try refine ⟨rfl, ?_⟩))))); (first | (refine Flo.N.sx_end ?_) | (refine Flo.N.sx_nil ?_; intro w2 hJ; (try have HJB := Lib.hid hJ.below); (first | (have hu1 := Flo.Holds.uncover (by exact rfl) hJ; have hu2 := Flo.Holds.uncover (by exact rfl) hu1.2; replace M := Flo.N.got2 (w0 := w0) (by repeat' (first | (with_reducible exact M) | (with_reducible apply Mem.drew) | (with_reducible apply Mem.alloc))) hJ.below hu2.1 hu1.1 hne; clear hu1 hu2) | (have hu1 := Flo.Holds.uncover (by exact rfl) hJ; replace M := Mem.got (w0 := w0) (x := .c _ _ _) (by repeat' (first | (with_reducible exact M) | (with_reducible apply Mem.drew) | (with_reducible apply Mem.alloc))) hJ.below hu1.1; clear hu1) | (replace M := Mem.call (w0 := w0) (by repeat' (first | (with_reducible exact M) | (with_reducible apply Mem.drew) | (with_reducible apply Mem.alloc))) hJ.below) | (have hB2 := hJ.below)); clear hJ; (try clear F); (try simp only [World.size_alloc] at M); (try simp only [heap_drew] at M); (try (have F := Mem.facts M; simp only [MemFacts] at F; (try simp only [ApartFacts] at F))))))
      go_wp2
      have hs := HS.out
      have hf := revF_next l (by rw [HN.out]; omega : 2 * t + 1 < l.length) (s := s) (by rw [HN.out]; exact hs)
      rw [HN.out] at hf
      have h2 := g0.trans Blk.out
      have k2 := Flo.heap_setCell_same (o := s) (Flo.heap_setCell_same (o := t) h2 (.int .u8 (at8 (tab n (revF l t)) s))) (.int .u8 (at8 (tab n (revF l t)) t))
      have k3 := k2
      rw [at8_tab (show s < n by omega), at8_tab (show t < n by omega), bA_tab_set, bA_tab_set, tab_congr hf] at k3
      rw [at8_tab (show s < n by omega), at8_tab (show t < n by omega)]
      refine ⟨⟨t + 1, by omega, by simp, by congr 1; omega, k3, grown_set (grown_set (grown_below gr GB.out) t _) s _⟩, by simp only [intOf]; omega⟩
    · have hlt2 : ¬ ((t : Int) < (n : Int) - 1 - t) := by omega
      have hd : decide ((t : Int) < (n : Int) - 1 - t) = false := decide_eq_false hlt2
      clear hlt2
      go_wp2
      have hr := rev_end l (t := t) (by rw [HN.out]; omega)
      rw [HN.out] at hr
      rw [hr] at blk
      go_end0
      exact ⟨rfl, gr, blk⟩
end Go.Proofs.Ytkgjgdeaclefiaa

/-! hash.Number, FromNumber, Zero, Cmp. -/
namespace Go.Proofs.Ytkgjgdeaclefiaa
open Go Go.Proofs Go.RowKit Go.Flo

theorem hshT : Rowed Try.prog 23 5 32 := ⟨Try.underlying23, by kernel_rfl⟩
theorem hshZ : (Try.prog.info? 23).map (fun i => i.zero) = some (some (.agg (bA nought))) := by
  unfold bA
  kernel_rfl

set_option maxRecDepth 100000 in
set_option maxHeartbeats 2000000 in
theorem hnumber_c (l : List UInt8) (hl : l.length = 32) (w0 : World) :
    Calls Try.prog 31 #[.agg (bA l)] w0 fun e w' => e = .returned (uV (beN l.reverse)) ∧ Below w0.heap.size w0 w' := by
  have hr : l.reverse.length = 32 := by simpa using hl
  obtain ⟨n, hn⟩ : ∃ n, n = beN l.reverse := ⟨_, rfl⟩
  have F1 : ∀ b w, Rd8 w (.slice (some ⟨b, 0, none⟩) 32 32) l.reverse → Calls Try.prog 77 #[.slice (some ⟨b, 0, none⟩) 32 32] w fun o w' => o = .returned (.tuple #[uV n, .int .i64 0]) ∧ Below w.heap.size w w' := fun b w h => by
    rw [hn]; exact frombytes_c _ _ (by rw [hr]; exact Nat.le_refl _) w h
  rw [← hn]
  clear hn
  have M := Mem.nil w0; have F := Mem.facts M; simp only [MemFacts] at F; (try simp only [ApartFacts] at F)
  go_enter Try.func31, Try.ntmps31
  go_wp2_with (first | (refine wl_box rfl 23 _ rfl rfl ?_) | (refine wl_alloc rfl 23 rfl hshZ ?_) | (go_at_call 111; refine (rev_c _ 32 23 (l) hl (by decide) _ (Mem.at (w0 := w0) 1 (by repeat' (first | (with_reducible exact M) | (with_reducible apply Mem.drew) | (with_reducible apply Mem.alloc))) (by rfl))).mono ?_; rintro e w1 ⟨rfl, hgr, hbk⟩; replace M := Mem.anew (w0 := w0) 1 (by repeat' (first | (with_reducible exact M) | (with_reducible apply Mem.drew) | (with_reducible apply Mem.alloc))) (by rfl) hgr hbk; clear hgr hbk; clear F; (try simp only [World.size_alloc] at M); (try simp only [List.set_cons_succ] at M); (try simp only [List.set_cons_zero] at M); have F := Mem.facts M; simp only [MemFacts] at F; (try simp only [ApartFacts] at F)) | (go_at_call 77; (refine (F1 _ _ (Mem.rd8 (w0 := w0) 1 (by repeat' (first | (with_reducible exact M) | (with_reducible apply Mem.drew) | (with_reducible apply Mem.alloc))) (by rfl) hr (by decide))).mono ?_); rintro e w1 ⟨rfl, hb⟩; replace M := Mem.call (w0 := w0) (by repeat' (first | (with_reducible exact M) | (with_reducible apply Mem.drew) | (with_reducible apply Mem.alloc))) hb; clear hb; (try clear F); (try simp only [World.size_alloc] at M); (try simp only [heap_drew] at M); have F := Mem.facts M; simp only [MemFacts] at F; (try simp only [ApartFacts] at F)))
  have M2 := (M.put4 0 rfl (.int .u64 (l0 n)) (.int .u64 (l1 n)) (.int .u64 (l2 n)) (.int .u64 (l3 n))).alloc (cs := #[.int .u64 (l0 n), .int .u64 (l1 n), .int .u64 (l2 n), .int .u64 (l3 n)]) (t := 32)
  have hc := fun j => cell_of_row _ _ j _ _ _ (M2.at 1 rfl)
  refine bodyPost_ret (v := uV n) (by simp [results, Try.results31, go_sem, hc]) rfl ⟨rfl, M2.below⟩

set_option maxRecDepth 100000 in
set_option maxHeartbeats 2000000 in
theorem hfromnumber_c (m : Nat) (w0 : World) :
    Calls Try.prog 30 #[uV m] w0 fun e w' => e = .returned (.agg (bA (bytesOf m).reverse)) ∧ Below w0.heap.size w0 w' := by
  have hq := bytesOf_length m
  have Hr : Hid ((bytesOf m).reverse.length = 32) := by show _ = _; simpa using hq
  have M := Mem.nil w0; have F := Mem.facts M; simp only [MemFacts] at F; (try simp only [ApartFacts] at F)
  go_enter Try.func30, Try.ntmps30
  go_wp2_with (first | (go_at_call 81; (with_reducible refine (bytes_c m _).mono ?_); rintro e w1 ⟨rfl, hb⟩; replace M := Mem.call (w0 := w0) (by repeat' (first | (with_reducible exact M) | (with_reducible apply Mem.drew) | (with_reducible apply Mem.alloc))) hb; clear hb; (try clear F); (try simp only [World.size_alloc] at M); (try simp only [heap_drew] at M); have F := Mem.facts M; simp only [MemFacts] at F; (try simp only [ApartFacts] at F)) | (refine wl_box rfl 23 _ rfl rfl ?_) | (refine wl_alloc rfl 23 rfl hshZ ?_) | (refine wl_storenew rfl 23 _ _ rfl hshT rfl rfl rfl ?_ ?_ (bA_one _) ?_; (focus (rw [bA_size]; exact hq)); (focus (rw [bA_size]; exact nought_length))) | (go_at_call 111; refine (rev_c _ 32 23 (bytesOf m) hq (by decide) _ (Mem.at (w0 := w0) 0 (by repeat' (first | (with_reducible exact M) | (with_reducible apply Mem.drew) | (with_reducible apply Mem.alloc))) (by rfl))).mono ?_; rintro e w1 ⟨rfl, hgr, hbk⟩; replace M := Mem.anew (w0 := w0) 0 (by repeat' (first | (with_reducible exact M) | (with_reducible apply Mem.drew) | (with_reducible apply Mem.alloc))) (by rfl) hgr hbk; clear hgr hbk; clear F; (try simp only [World.size_alloc] at M); (try simp only [List.set_cons_succ] at M); (try simp only [List.set_cons_zero] at M); have F := Mem.facts M; simp only [MemFacts] at F; (try simp only [ApartFacts] at F)) | (refine wl_load rfl 23 _ rfl hshT rfl (M.at 0 rfl) (by rw [bA_size]; exact Hr.out) ?_) | (refine wl_store rfl 23 _ _ rfl hshT rfl rfl (M.at 1 rfl) (by rw [bA_size]; exact Hr.out) (by rw [bA_size]; rfl) (bA_one _) ?_))
  refine bodyPost_ret (results_cell_row Try.results30 _ _ (w0.heap.size + 1) 23 (bA (bytesOf m).reverse) (0, 0) _ rfl ((M.row 1 rfl _).at 1 rfl) hshT.under rfl (by rw [bA_size, Hr.out]; exact hshT.size)) rfl ⟨rfl, ?_⟩
  exact (M.row 1 rfl (bA (bytesOf m).reverse)).below

set_option maxRecDepth 100000 in
set_option maxHeartbeats 2000000 in
theorem hzero_c (l : List UInt8) (hl : l.length = 32) (w0 : World) :
    Calls Try.prog 32 #[.agg (bA l)] w0 fun e w' => e = .returned (.bool (l == nought)) ∧ Below w0.heap.size w0 w' := by
  have hn := nought_length
  have M := Mem.nil w0; have F := Mem.facts M; simp only [MemFacts] at F; (try simp only [ApartFacts] at F)
  go_enter Try.func32, Try.ntmps32
  go_wp2_with (first | (refine wl_box rfl 23 _ rfl rfl ?_) | (refine wl_alloc rfl 23 rfl hshZ ?_) | (refine wl_load rfl 23 _ rfl hshT rfl (heap_alloc_new _ _) (by rw [bA_size]; exact hl) ?_))
  (go_wp2_with (fail); refine bodyPost_ret (v := .bool (l == nought)) (by simp [results, Try.results32, go_sem]) rfl ⟨rfl, (Mem.below (w0 := w0) (by repeat' (first | (with_reducible exact M) | (with_reducible apply Mem.drew) | (with_reducible apply Mem.alloc))))⟩)

set_option maxRecDepth 100000 in
set_option maxHeartbeats 2000000 in
theorem hcmp_c (k l : List UInt8) (hk : k.length = 32) (hl : l.length = 32) (w0 : World) :
    Calls Try.prog 92 #[.agg (bA k), .agg (bA l)] w0 fun e w' => e = .returned (.int .i64 (cmpI (beN k.reverse) (beN l.reverse))) ∧ Below w0.heap.size w0 w' := by
  have hk' : beN k.reverse < top := beN_top (by rw [List.length_reverse, hk]; exact Nat.le_refl _)
  have hl' : beN l.reverse < top := beN_top (by rw [List.length_reverse, hl]; exact Nat.le_refl _)
  have N1 := hnumber_c k hk
  have N2 := hnumber_c l hl
  have C1 := cmp_c _ _ hk' hl'
  generalize beN k.reverse = x at *
  generalize beN l.reverse = y at *
  clear hk' hl'
  have M := Mem.nil w0; have F := Mem.facts M; simp only [MemFacts] at F; (try simp only [ApartFacts] at F)
  go_enter Try.func92, Try.ntmps92
  go_wp2_with (first | (refine wl_box rfl 23 _ rfl rfl ?_) | (refine wl_alloc rfl 23 rfl hshZ ?_))
  replace M := Mem.alloc (Mem.alloc M (cs := bA k) (t := 23)) (cs := bA l) (t := 23)
  simp only [World.size_alloc] at M
  ((try simp only [List.append_eq, List.cons_append, List.nil_append]); refine Flo.N.wp_made (by kernel_rfl) (by decide +kernel) ?_; (repeat (first | (refine Flo.N.sx_skip (by exact rfl) (by exact rfl) ?_; simp only [Act.put, List.setIfInBounds_toArray, List.set_cons_zero, List.set_cons_succ]) | (refine Flo.N.sx_pure (by exact rfl) (by exact rfl) (by exact rfl) ?_; intro K hK; go_big_quiet_op; go_big_quiet_on) | (refine Flo.N.sx_row (by exact rfl) (by exact rfl) (by exact rfl) 23 _ rfl hshT rfl (Mem.at (w0 := w0) 1 (by repeat' (first | (with_reducible exact M) | (with_reducible apply Mem.drew) | (with_reducible apply Mem.alloc))) (by rfl)) (heap_lt (Mem.at (w0 := w0) 1 (by repeat' (first | (with_reducible exact M) | (with_reducible apply Mem.drew) | (with_reducible apply Mem.alloc))) (by rfl))) ?_ ?_; (focus (rw [bA_size]; exact hk)); simp only [Act.put, List.setIfInBounds_toArray, List.set_cons_zero, List.set_cons_succ]) | (refine Flo.N.sx_row (by exact rfl) (by exact rfl) (by exact rfl) 23 _ rfl hshT rfl (Mem.at (w0 := w0) 0 (by repeat' (first | (with_reducible exact M) | (with_reducible apply Mem.drew) | (with_reducible apply Mem.alloc))) (by rfl)) (heap_lt (Mem.at (w0 := w0) 0 (by repeat' (first | (with_reducible exact M) | (with_reducible apply Mem.drew) | (with_reducible apply Mem.alloc))) (by rfl))) ?_ ?_; (focus (rw [bA_size]; exact hl)); simp only [Act.put, List.setIfInBounds_toArray, List.set_cons_zero, List.set_cons_succ]) | (refine Flo.N.sx_free (by exact rfl) (by exact rfl) (by exact rfl) (by exact rfl) ?_; intro K hK; go_big_quiet_op; go_big_quiet_on) | (apply Flo.N.sx_alloc (by exact rfl) (by exact rfl); (focus (intro w; go_simp; first | done | exact rfl | exact ⟨rfl, rfl⟩)); intro b hn hfr; (try have hne := Flo.Fresh.ne hfr); simp only [Act.put, List.setIfInBounds_toArray, List.set_cons_zero, List.set_cons_succ]) | (apply Flo.N.sx_build _ (by exact rfl) (by exact rfl); (focus (intro w; go_simp; first | done | exact rfl | exact ⟨rfl, rfl⟩)); intro b hn hfr; (try have hne := Flo.Fresh.ne hfr); simp only [Act.put, List.setIfInBounds_toArray, List.set_cons_zero, List.set_cons_succ]) | (apply Flo.N.sx_give (by exact rfl) (by exact rfl); (focus (intro w hbW hh; apply Flo.gives_of; intro G hG; go_simp; apply hG _ _ (by kernel_rfl); clear hG G; first | (with_reducible exact N1 _) | (with_reducible exact N2 _) | (with_reducible exact C1 _))); simp only [Act.put, List.setIfInBounds_toArray, List.set_cons_zero, List.set_cons_succ]) | (refine Flo.N.sx_last (by exact rfl) (by exact rfl) ?_; intro w2 hJ K hK; first | (have hJ : Flo.Holds _ _ _ _ := hJ; (try have HJB := Lib.hid hJ.below); (first | (have hu1 := Flo.Holds.uncover (by exact rfl) hJ; have hu2 := Flo.Holds.uncover (by exact rfl) hu1.2; replace M := Flo.N.got2 (w0 := w0) (by repeat' (first | (with_reducible exact M) | (with_reducible apply Mem.drew) | (with_reducible apply Mem.alloc))) hJ.below hu2.1 hu1.1 hne; clear hu1 hu2) | (have hu1 := Flo.Holds.uncover (by exact rfl) hJ; replace M := Mem.got (w0 := w0) (x := .c _ _ _) (by repeat' (first | (with_reducible exact M) | (with_reducible apply Mem.drew) | (with_reducible apply Mem.alloc))) hJ.below hu1.1; clear hu1) | (replace M := Mem.call (w0 := w0) (by repeat' (first | (with_reducible exact M) | (with_reducible apply Mem.drew) | (with_reducible apply Mem.alloc))) hJ.below) | (have hB2 := hJ.below)); clear hJ; (try clear F); (try simp only [World.size_alloc] at M); (try simp only [heap_drew] at M); (try (have F := Mem.facts M; simp only [MemFacts] at F; (try simp only [ApartFacts] at F))); go_wp2_with (fail); (try refine ⟨rfl, ?_⟩)) | (have hJ : w2 = _ := hJ; subst hJ; go_wp2_with (fail); (try refine ⟨rfl, ?_⟩))))); (first | (refine Flo.N.sx_end ?_) | (refine Flo.N.sx_nil ?_; intro w2 hJ; (try have HJB := Lib.hid hJ.below); (first | (have hu1 := Flo.Holds.uncover (by exact rfl) hJ; have hu2 := Flo.Holds.uncover (by exact rfl) hu1.2; replace M := Flo.N.got2 (w0 := w0) (by repeat' (first | (with_reducible exact M) | (with_reducible apply Mem.drew) | (with_reducible apply Mem.alloc))) hJ.below hu2.1 hu1.1 hne; clear hu1 hu2) | (have hu1 := Flo.Holds.uncover (by exact rfl) hJ; replace M := Mem.got (w0 := w0) (x := .c _ _ _) (by repeat' (first | (with_reducible exact M) | (with_reducible apply Mem.drew) | (with_reducible apply Mem.alloc))) hJ.below hu1.1; clear hu1) | (replace M := Mem.call (w0 := w0) (by repeat' (first | (with_reducible exact M) | (with_reducible apply Mem.drew) | (with_reducible apply Mem.alloc))) hJ.below) | (have hB2 := hJ.below)); clear hJ; (try clear F); (try simp only [World.size_alloc] at M); (try simp only [heap_drew] at M); (try (have F := Mem.facts M; simp only [MemFacts] at F; (try simp only [ApartFacts] at F))))))
  (go_wp2_with (fail); refine bodyPost_ret (v := .int .i64 (cmpI x y)) (by simp [results, Try.results92, go_sem]) rfl ⟨rfl, (Mem.below (w0 := w0) (by repeat' (first | (with_reducible exact M) | (with_reducible apply Mem.drew) | (with_reducible apply Mem.alloc))))⟩)
end Go.Proofs.Ytkgjgdeaclefiaa

/-! hash.Text. -/
namespace Go.Proofs.Ytkgjgdeaclefiaa
open Go Go.Proofs Go.RowKit Go.Flo Go.Shelf

attribute [local go_sem] Oper.semAt_some

/-- A byte's two signs. -/
def two (x : UInt8) : List Int := [sgn (x.toNat / 16), sgn (x.toNat % 16)]
/-- What stands when these bytes have come. -/
def txtP (l : List UInt8) (pre : List (Fin l.length)) : List Int := pre.flatMap fun x => two l[x]
def txtI (l : List UInt8) : List Int := l.reverse.flatMap two
theorem txtP_snoc (l : List UInt8) (pre : List (Fin l.length)) (x : Fin l.length) : txtP l (pre ++ [x]) = txtP l pre ++ two l[x] := by simp [txtP]
theorem txtP_length (l : List UInt8) (pre : List (Fin l.length)) : (txtP l pre).length = 2 * pre.length := by
  unfold txtP
  induction pre with
  | nil => rfl
  | cons x pre ih => rw [List.flatMap_cons, List.length_append, ih, List.length_cons]; simp [two]; omega
theorem txtP_all (l : List UInt8) : txtP l (dnl l.length) = txtI l := by
  have e : (dnl l.length).map (fun x => l[x]) = l.reverse := by
    unfold dnl
    rw [List.map_reverse]
    congr 1
    apply List.ext_getElem
    · simp
    · intro i h1 h2; simp
  unfold txtP txtI
  rw [← e, List.flatMap_map]
theorem nib_u8 (c : Nat) (h : c < 256) : bits .and .u8 (c : Int) 15 = ((c % 16 : Nat) : Int) := by
  have key : ∀ c : Fin 256, bits .and .u8 (c.1 : Int) 15 = ((c.1 % 16 : Nat) : Int) := by decide +kernel
  exact key ⟨c, h⟩

theorem keeps_of_below {W W' : World} (h : Below W.heap.size W W') : KeepsOthers W W' := ⟨h.size, fun k _ hk _ => (h.block k (heap_lt hk)).trans hk⟩
theorem keeps_of_grown {base : Nat} {W W' : World} {x : It} (hx : x.holds base W) (hc : ofCells x = true) (hg : W.grownBy W' x.blk) : KeepsOthers W W' := ⟨hg.size, fun k _ hk hn => by
  refine (hg.block k (heap_lt hk) fun e => ?_).trans hk
  obtain ⟨o', ho', hc'⟩ := holds_cells hx hc e.symm
  rw [hk] at ho'; cases ho'; rw [hn] at hc'; cases hc'⟩
/-- What a round keeps, from the memory ahead of it and behind it: the block that is iterated is the first of the call's own. -/
theorem kb_of {w0 W W' : World} {l l' : List It} {b : Nat} {cb cc : Array Value} {tb tc : TypeId} (M : Mem w0 W l) (M' : Mem w0 W' l') (hs : W.heap.size ≤ W'.heap.size) (i i' : Nat) (hi : l[i]? = some (.c b cb tb)) (hi' : l'[i']? = some (.c b cb tb))
    (j j' : Nat) (hj : l[j]? = some (.c w0.heap.size cc tc)) (hj' : l'[j']? = some (.c w0.heap.size cc tc)) : KB (w0.heap.size + 1) b W W' := by
  refine ⟨⟨M'.below.os.trans M.below.os.symm, M'.below.tape.trans M.below.tape.symm, M'.below.output.trans M.below.output.symm, hs, fun k hk => ?_⟩, (M'.at i' hi').trans (M.at i hi).symm⟩
  rcases Nat.lt_or_ge k w0.heap.size with h | h
  · exact (M'.below.block k h).trans (M.below.block k h).symm
  · have : k = w0.heap.size := by omega
    subst this
    exact (M'.at j' hj').trans (M.at j hj).symm

set_option maxRecDepth 100000 in
set_option maxHeartbeats 4000000 in
theorem htext_c (l : List UInt8) (hl : l.length = 32) (w0 : World) :
    Calls Try.prog 29 #[.agg (bA l)] w0 fun e w' => e = .returned (.string (strOf (txtI l))) ∧ Below w0.heap.size w0 w' := by
  obtain ⟨i0, hi, hz0, hz1, hz2⟩ : ∃ i : TypeInfo, Try.prog.info? 5 = some i ∧ i.zero = some (.int .u8 0) ∧ i.size = 1 ∧ i.bytes = 1 := ⟨_, rfl, rfl, rfl, rfl⟩
  refine (callsIn_wide (n := 3)).1 ?_
  refine callsIn_of_wp_marks Try.func29 rfl trivial ?_ rfl
  simp only [Try.ntmps29, List.size_toArray, List.length_cons, List.length_nil, Nat.reduceAdd, Nat.reduceSub, Array.replicate_succ, Array.replicate_zero, List.push_toArray, List.append_toArray, List.nil_append, List.cons_append]
  gi_wp2_with (first | (refine ⟨trivial, ?_⟩; gi_at_call 110; refine (back_in Fence.wide _ trivial rfl _ ⟨_, _, _, rfl⟩ _).mono ?_; rintro e w' ⟨rfl, rfl⟩) | (gi_at_call 110; refine (back_in Fence.wide _ trivial rfl _ ⟨_, _, _, rfl⟩ _).mono ?_; rintro e w' ⟨rfl, rfl⟩))
  have M := Mem.alloc (Mem.alloc (Mem.alloc (Mem.alloc (Mem.nil w0) (cs := bA l) (t := 23)) (cs := #[]) (t := 5)) (cs := #[.slice (some ⟨w0.heap.size + 1, 0, none⟩) 0 0]) (t := 42)) (cs := #[.slice (some ⟨w0.heap.size, 0, none⟩) 32 32]) (t := 42)
  simp only [World.size_alloc] at M
  have M1 := (M.owned 2 0 0 1 rfl (Nat.le_refl _) (by decide) rfl).pick [0, 1, 2, 3] (by decide)
  have M2 : Mem w0 _ [.c (w0.heap.size + 1 + 1 + 1) #[.slice (some ⟨w0.heap.size, 0, none⟩) 32 32] 42, .c (w0.heap.size + 1 + 1) #[.slice (some ⟨w0.heap.size + 1, 0, none⟩) 0 0] 42, .s (.slice (some ⟨w0.heap.size + 1, 0, none⟩) 0 0) 5 1 0 [], .c w0.heap.size (bA l) 23] := M1
  clear M1
  have F := Mem.facts M
  simp only [MemFacts, ApartFacts, World.size_alloc] at F
  have hI' := Mem.rd8At 3 M2 rfl hl (by decide)
  refine wpIn_rangeFunc_ownG (w0 := (((w0.alloc (.cells (bA l) 23)).alloc (.cells #[] 5)).alloc (.cells #[.slice (some ⟨w0.heap.size + 1, 0, none⟩) 0 0] 42)).alloc (.cells #[.slice (some ⟨w0.heap.size, 0, none⟩) 32 32] 42)) rfl (by omega) (gf := 135) (lb := #[.pointer (some ⟨w0.heap.size + 1 + 1 + 1, 0, none⟩)]) rfl trivial (enters_of Try.func135 (by kernel_rfl) rfl)
    (back_stops Fence.wide _ trivial rfl (by omega) (w0.heap.size + 1 + 1 + 1) (w0.heap.size + 1) _ l (by omega) _ (by simp) (by first | (simp; done) | (simp; omega)) (F.2.2.2.1 0) hI') KB.trans (kb_b (by first | (simp; done) | (simp; omega)) (by simp)) (Below.refl _ _) (fun _ => rfl)
    (fun pre W => ∃ v, Mem w0 W [.c (w0.heap.size + 1 + 1 + 1) #[.slice (some ⟨w0.heap.size, 0, none⟩) 32 32] 42, .c (w0.heap.size + 1 + 1) #[v] 42, .s v 5 1 (2 * pre.length) ((txtP l pre).map (Value.int .u8)), .c w0.heap.size (bA l) 23])
    (fun _ _ _ => False)
    (fun s A B row hs hg hr => hs.elim fun v h => ⟨v, mem_own (w0 := w0) (by simp; omega) (fun _ : Unit => [.c (w0.heap.size + 1 + 1 + 1) #[.slice (some ⟨w0.heap.size, 0, none⟩) 32 32] 42, .c (w0.heap.size + 1 + 1) #[v] 42, .s v 5 1 (2 * s.length) ((txtP l s).map (Value.int .u8)), .c w0.heap.size (bA l) 23]) (fun _ => rfl) () A B row h hg hr⟩)
    (fun _ _ _ _ _ hs _ _ => hs)
    ⟨_, M2⟩
    (fun x => { tmps := #[.agg (bA l), .pointer (some ⟨w0.heap.size, 0, none⟩), .string ⟨#[]⟩, .pointer (some ⟨w0.heap.size + 1 + 1, 0, none⟩), undef, .int .u8 (at8 l x.1), .slice (some ⟨w0.heap.size + 1, 0, none⟩) 0 0, .slice (some ⟨w0.heap.size, 0, none⟩) 32 32,
      .func (.func 135) #[] #[.pointer (some ⟨w0.heap.size + 1 + 1 + 1, 0, none⟩)], .int .i64 x.1, .int .u8 (at8 l x.1),
      undef, undef, undef, undef, undef, undef, undef, undef, undef, undef, undef], defers := [] }) ?assign ?body ?done ?stop
  case assign =>
    intro l x W K hK
    gi_wp2
    exact hK
  case body =>
    rintro l' pre x W ⟨v, M⟩ hpl
    have F := Mem.facts M; simp only [MemFacts] at F; (try simp only [ApartFacts] at F)
    obtain ⟨a, c, hv⟩ := M.shape 2 rfl
    subst hv
    have HM := Lib.hid M
    have e8 : at8 l x.1 = ((l[x.1].toNat : Nat) : Int) := at8_get x.2
    rw [e8]
    have hc8 := l[x.1].toNat_lt
    obtain ⟨q, hq⟩ : ∃ q, q = l[x.1].toNat := ⟨_, rfl⟩
    rw [← hq] at hc8 ⊢
    have HQ := Lib.hid hq
    have hq256 : q < 256 := by omega
    have hq0 : (q : Int) < 256 := by omega
    obtain ⟨q1, h1⟩ : ∃ q1, q1 = q / 16 := ⟨_, rfl⟩
    obtain ⟨q2, h2⟩ : ∃ q2, q2 = q % 16 := ⟨_, rfl⟩
    have hs1 : (q : Int) / 16 = (q1 : Int) := by omega
    have hnib : bits .and .u8 (q : Int) 15 = (q2 : Int) := by rw [nib_u8 q hq256, h2]
    have d1 : q1 < 16 := by omega
    have d2 : q2 < 16 := by omega
    have g1 : ((((ByteArray.mk #[48, 49, 50, 51, 52, 53, 54, 55, 56, 57, 97, 98, 99, 100, 101, 102])[q1]'d1).toNat : Nat) : Int) = sgn q1 := sgn_get q1 d1 d1
    have g2 : ((((ByteArray.mk #[48, 49, 50, 51, 52, 53, 54, 55, 56, 57, 97, 98, 99, 100, 101, 102])[q2]'d2).toNat : Nat) : Int) = sgn q2 := sgn_get q2 d2 d2
    have d1' : (q1 : Int) < 16 := by omega
    have d2' : (q2 : Int) < 16 := by omega
    have H1 := Lib.hid h1
    have H2 := Lib.hid h2
    clear e8 hc8 hq h1 h2 M
    replace M := HM.out
    gi_wp2
    ((try simp only [List.append_eq, List.cons_append, List.nil_append]); refine Flo.N.wpIn_made (by kernel_rfl) (by decide +kernel) (by decide +kernel) ?_; (repeat (first | (refine Flo.N.sx_skip (by exact rfl) (by exact rfl) ?_; simp only [Act.put, List.setIfInBounds_toArray, List.set_cons_zero, List.set_cons_succ]) | (refine Flo.N.sx_pure (by exact rfl) (by exact rfl) (by exact rfl) ?_; intro K hK; go_big_quiet_op; go_big_quiet_on) | (refine Flo.N.sx_free (by exact rfl) (by exact rfl) (by exact rfl) (by exact rfl) ?_; intro K hK; go_big_quiet_op; go_big_quiet_on) | (apply Flo.N.sx_alloc (by exact rfl) (by exact rfl); (focus (intro w; go_simp; first | done | exact rfl | exact ⟨rfl, rfl⟩)); intro b hn hfr; (try have hne := Flo.Fresh.ne hfr); simp only [Act.put, List.setIfInBounds_toArray, List.set_cons_zero, List.set_cons_succ]) | (apply Flo.N.sx_build _ (by exact rfl) (by exact rfl); (focus (intro w; go_simp; first | done | exact rfl | exact ⟨rfl, rfl⟩)); intro b hn hfr; (try have hne := Flo.Fresh.ne hfr); simp only [Act.put, List.setIfInBounds_toArray, List.set_cons_zero, List.set_cons_succ]))))
    (refine Flo.N.sx_last (by exact rfl) (by exact rfl) ?_; intro w2 hJ K hK; have hJ : Flo.Holds _ _ _ _ := hJ; (try have HJB := Lib.hid hJ.below); (first | (have hu1 := Flo.Holds.uncover (by exact rfl) hJ; have hu2 := Flo.Holds.uncover (by exact rfl) hu1.2; replace M := Flo.N.got2 (w0 := w0) (by repeat' (first | (with_reducible exact M) | (with_reducible apply Mem.drew) | (with_reducible apply Mem.alloc))) hJ.below hu2.1 hu1.1 hne; clear hu1 hu2) | (have hu1 := Flo.Holds.uncover (by exact rfl) hJ; replace M := Mem.got (w0 := w0) (x := .c _ _ _) (by repeat' (first | (with_reducible exact M) | (with_reducible apply Mem.drew) | (with_reducible apply Mem.alloc))) hJ.below hu1.1; clear hu1) | (replace M := Mem.call (w0 := w0) (by repeat' (first | (with_reducible exact M) | (with_reducible apply Mem.drew) | (with_reducible apply Mem.alloc))) hJ.below) | (have hB2 := hJ.below)); clear hJ; (try clear F); (try simp only [World.size_alloc] at M); (try simp only [heap_drew] at M); (try (have F := Mem.facts M; simp only [MemFacts] at F; (try simp only [ApartFacts] at F))))
    refine Flo.wp_append (P := Try.prog) _ 3 M rfl _ _ 42 rfl i0 (.int .u8 0) 1 Try.underlying42 hi hz0 hz1 hz2 rfl (by decide) rfl _ 2 2 [.int .u8 (sgn q1), .int .u8 (sgn q2)] rfl rfl ?c1 ?c2 ?c3 ?c4 ?_
    case c1 =>
      intro k u hk
      match k, hk with
      | 0, hk => simp at hk; subst hk; simp [Addr.add, F]
      | 1, hk => simp at hk; subst hk; simp [Addr.add, F]
    case c2 => intro u hu; simp at hu; rcases hu with rfl | rfl <;> rfl
    case c3 => unfold maxLen; omega
    case c4 => omega
    intro v' w3 M3 hg3
    have HG := Lib.hid hg3
    simp only [List.set_cons_succ, List.set_cons_zero] at M3
    obtain ⟨a2, c2, hv2⟩ := M3.shape 3 rfl
    subst hv2
    have HM3 := Lib.hid M3
    have HMo := Lib.hid M
    clear M F hg3
    replace M := M3
    clear M3
    have F := Mem.facts M; simp only [MemFacts] at F; (try simp only [ApartFacts] at F)
    refine hK _ _ ⟨rfl, ?_⟩
    clear hK
    simp only [Act.put, List.setIfInBounds_toArray, List.set_cons_zero, List.set_cons_succ]
    (refine Flo.N.sx_last (by exact rfl) (by exact rfl) ?_; intro w2 hJ K hK; have hJ : w2 = _ := hJ; subst hJ)
    go_wp2
    refine Flo.N.sx_end ?_
    have M4 := HM3.out.put 2 rfl 0 (.slice a2 (2 * pre.length + 2) c2)
    simp only [List.set_cons_succ, List.set_cons_zero] at M4
    have hk1 := keeps_of_below HJB.out
    have hk2 := keeps_of_grown (x := .s (.slice a (2 * pre.length) c) 5 1 (2 * pre.length) ((txtP l pre).map (Value.int .u8))) (HMo.out.items.get (i := 3) rfl) rfl HG.out
    refine ⟨((hk1.trans hk2).trans (KeepsOthers.setCell _ _ _)).from _, kb_of HM.out M4 ?_ 0 1 rfl rfl 3 4 rfl rfl, .slice a2 (2 * pre.length + 2) c2, ?_⟩
    · have e1 := hk1.size; have e2 := hk2.size; simp; omega
    · have e : txtP l (pre ++ [x]) = txtP l pre ++ [sgn q1, sgn q2] := by
        rw [txtP_snoc, two]
        have := HQ.out
        rw [show (l[x] : UInt8) = l[x.1] from rfl, ← HQ.out, ← H1.out, ← H2.out]
      have M5 := M4.pick [1, 2, 3, 4] (by decide)
      rw [e, List.map_append, List.length_append]
      exact M5
  case done =>
    rintro D ys W hD rfl ⟨v, M⟩ hK
    have F := Mem.facts M; simp only [MemFacts] at F; (try simp only [ApartFacts] at F)
    have hown : W.ownsRow w0.heap.size 5 1 v (2 * (dnl l.length).length) ((txtP l (dnl l.length)).map (Value.int .u8)) := M.items.get (i := 2) (x := .s v 5 1 (2 * (dnl l.length).length) ((txtP l (dnl l.length)).map (Value.int .u8))) rfl
    have hconv := own_string Try.underlying42 Try.underlying5 Try.underlying9 hown (by rw [dnl_length]; omega)
    gi_wp2
    refine ⟨by simp, .inl ⟨_, _, rfl, run_takeDeferred hK, ?_⟩⟩
    have M3 := mem_done M rfl (by simp at hD; omega) hK rfl (.deferred none)
    rw [← txtP_all l]
    refine ⟨.string (strOf (txtP l (dnl l.length))), ?_, rfl, M3.below⟩
    simp [results, Try.results29, go_sem]
  case stop =>
    rintro D c pre W _ _ h _
    exact h.elim
end Go.Proofs.Ytkgjgdeaclefiaa

/-! hash.digit, florinref03.digit. -/
namespace Go.Proofs.Ytkgjgdeaclefiaa
open Go Go.Proofs Go.RowKit Go.Flo

theorem andnot_low (c : Nat) (h : 97 ≤ c ∧ c ≤ 102) : bits .andNot .i32 (c : Int) 32 = ((c - 32 : Nat) : Int) := by
  have key : ∀ c : Fin 103, 97 ≤ c.1 → bits .andNot .i32 (c.1 : Int) 32 = ((c.1 - 32 : Nat) : Int) := by decide +kernel
  exact key ⟨c, by omega⟩ h.1
theorem andnot_up (c : Nat) (h : 65 ≤ c ∧ c ≤ 70) : bits .andNot .i32 (c : Int) 32 = (c : Int) := by
  have key : ∀ c : Fin 71, 65 ≤ c.1 → bits .andNot .i32 (c.1 : Int) 32 = (c.1 : Int) := by decide +kernel
  exact key ⟨c, by omega⟩ h.1

theorem hdigit_y0 (c : Nat) (hc : 48 ≤ c ∧ c ≤ 57) (w : World) :
    Calls Try.prog 109 #[.int .i32 (c : Int)] w fun e w' => e = .returned (.int .i64 ((c - 48 : Nat) : Int)) ∧ Below w.heap.size w w' := by
  have e : (c : Int) - 48 = ((c - 48 : Nat) : Int) := by omega
  have g48 : (48 : Int) ≤ c := by omega
  have g97 : decide ((97 : Int) ≤ c) = false := decide_eq_false (by omega)
  have g65 : decide ((65 : Int) ≤ c) = false := decide_eq_false (by omega)
  have l57 : (c : Int) ≤ 57 := by omega
  have l102 : (c : Int) ≤ 102 := by omega
  have l70 : (c : Int) ≤ 70 := by omega
  clear hc
  go_enter Try.func109, Try.ntmps109
  go_wp2
  (try rw [e])
  refine bodyPost_ret (v := .int .i64 ((c - 48 : Nat) : Int)) (by simp [results, Try.results109, go_sem]) rfl ⟨rfl, ?_⟩
  repeat' (first | (with_reducible exact Below.refl _ _) | (with_reducible assumption) | (with_reducible refine Below.drew ?_) | (with_reducible refine Below.alloc ?_ ?_ _) | (with_reducible refine Below.setCell ?_ ?_ _) | (with_reducible refine Flo.below_step ?_ (by assumption)) | (simp; done) | (simp; omega))
theorem hdigit_y1 (c : Nat) (hc : 97 ≤ c ∧ c ≤ 102) (w : World) :
    Calls Try.prog 109 #[.int .i32 (c : Int)] w fun e w' => e = .returned (.int .i64 ((c - 87 : Nat) : Int)) ∧ Below w.heap.size w w' := by
  have hb := andnot_low c hc
  have e : ((c - 32 : Nat) : Int) - 65 + 10 = ((c - 87 : Nat) : Int) := by omega
  have g32 : (32 : Nat) ≤ c := by omega
  have g48 : (48 : Int) ≤ c := by omega
  have g97 : (97 : Int) ≤ c := by omega
  have g65 : (65 : Int) ≤ c := by omega
  have l57 : decide ((c : Int) ≤ 57) = false := decide_eq_false (by omega)
  have l102 : (c : Int) ≤ 102 := by omega
  have l70 : decide ((c : Int) ≤ 70) = false := decide_eq_false (by omega)
  clear hc
  go_enter Try.func109, Try.ntmps109
  go_wp2
  (try rw [e])
  refine bodyPost_ret (v := .int .i64 ((c - 87 : Nat) : Int)) (by simp [results, Try.results109, go_sem]) rfl ⟨rfl, ?_⟩
  repeat' (first | (with_reducible exact Below.refl _ _) | (with_reducible assumption) | (with_reducible refine Below.drew ?_) | (with_reducible refine Below.alloc ?_ ?_ _) | (with_reducible refine Below.setCell ?_ ?_ _) | (with_reducible refine Flo.below_step ?_ (by assumption)) | (simp; done) | (simp; omega))
theorem hdigit_y2 (c : Nat) (hc : 65 ≤ c ∧ c ≤ 70) (w : World) :
    Calls Try.prog 109 #[.int .i32 (c : Int)] w fun e w' => e = .returned (.int .i64 ((c - 55 : Nat) : Int)) ∧ Below w.heap.size w w' := by
  have hb := andnot_up c hc
  have e : (c : Int) - 65 + 10 = ((c - 55 : Nat) : Int) := by omega
  have g48 : (48 : Int) ≤ c := by omega
  have g97 : decide ((97 : Int) ≤ c) = false := decide_eq_false (by omega)
  have g65 : (65 : Int) ≤ c := by omega
  have l57 : decide ((c : Int) ≤ 57) = false := decide_eq_false (by omega)
  have l102 : (c : Int) ≤ 102 := by omega
  have l70 : (c : Int) ≤ 70 := by omega
  clear hc
  go_enter Try.func109, Try.ntmps109
  go_wp2
  (try rw [e])
  refine bodyPost_ret (v := .int .i64 ((c - 55 : Nat) : Int)) (by simp [results, Try.results109, go_sem]) rfl ⟨rfl, ?_⟩
  repeat' (first | (with_reducible exact Below.refl _ _) | (with_reducible assumption) | (with_reducible refine Below.drew ?_) | (with_reducible refine Below.alloc ?_ ?_ _) | (with_reducible refine Below.setCell ?_ ?_ _) | (with_reducible refine Flo.below_step ?_ (by assumption)) | (simp; done) | (simp; omega))
theorem hdigit_n0 (c : Nat) (hc : 0 ≤ c ∧ c ≤ 47) (w : World) :
    Calls Try.prog 109 #[.int .i32 (c : Int)] w fun e w' => e = .returned (.int .i64 (-1)) ∧ Below w.heap.size w w' := by
  have g48 : decide ((48 : Int) ≤ c) = false := decide_eq_false (by omega)
  have g97 : decide ((97 : Int) ≤ c) = false := decide_eq_false (by omega)
  have g65 : decide ((65 : Int) ≤ c) = false := decide_eq_false (by omega)
  have l57 : (c : Int) ≤ 57 := by omega
  have l102 : (c : Int) ≤ 102 := by omega
  have l70 : (c : Int) ≤ 70 := by omega
  clear hc
  go_enter Try.func109, Try.ntmps109
  go_wp2
  refine bodyPost_ret (v := .int .i64 (-1)) (by simp [results, Try.results109, go_sem]) rfl ⟨rfl, ?_⟩
  repeat' (first | (with_reducible exact Below.refl _ _) | (with_reducible assumption) | (with_reducible refine Below.drew ?_) | (with_reducible refine Below.alloc ?_ ?_ _) | (with_reducible refine Below.setCell ?_ ?_ _) | (with_reducible refine Flo.below_step ?_ (by assumption)) | (simp; done) | (simp; omega))
theorem hdigit_n1 (c : Nat) (hc : 58 ≤ c ∧ c ≤ 64) (w : World) :
    Calls Try.prog 109 #[.int .i32 (c : Int)] w fun e w' => e = .returned (.int .i64 (-1)) ∧ Below w.heap.size w w' := by
  have g48 : (48 : Int) ≤ c := by omega
  have g97 : decide ((97 : Int) ≤ c) = false := decide_eq_false (by omega)
  have g65 : decide ((65 : Int) ≤ c) = false := decide_eq_false (by omega)
  have l57 : decide ((c : Int) ≤ 57) = false := decide_eq_false (by omega)
  have l102 : (c : Int) ≤ 102 := by omega
  have l70 : (c : Int) ≤ 70 := by omega
  clear hc
  go_enter Try.func109, Try.ntmps109
  go_wp2
  refine bodyPost_ret (v := .int .i64 (-1)) (by simp [results, Try.results109, go_sem]) rfl ⟨rfl, ?_⟩
  repeat' (first | (with_reducible exact Below.refl _ _) | (with_reducible assumption) | (with_reducible refine Below.drew ?_) | (with_reducible refine Below.alloc ?_ ?_ _) | (with_reducible refine Below.setCell ?_ ?_ _) | (with_reducible refine Flo.below_step ?_ (by assumption)) | (simp; done) | (simp; omega))
theorem hdigit_n2 (c : Nat) (hc : 71 ≤ c ∧ c ≤ 96) (w : World) :
    Calls Try.prog 109 #[.int .i32 (c : Int)] w fun e w' => e = .returned (.int .i64 (-1)) ∧ Below w.heap.size w w' := by
  have g48 : (48 : Int) ≤ c := by omega
  have g97 : decide ((97 : Int) ≤ c) = false := decide_eq_false (by omega)
  have g65 : (65 : Int) ≤ c := by omega
  have l57 : decide ((c : Int) ≤ 57) = false := decide_eq_false (by omega)
  have l102 : (c : Int) ≤ 102 := by omega
  have l70 : decide ((c : Int) ≤ 70) = false := decide_eq_false (by omega)
  clear hc
  go_enter Try.func109, Try.ntmps109
  go_wp2
  refine bodyPost_ret (v := .int .i64 (-1)) (by simp [results, Try.results109, go_sem]) rfl ⟨rfl, ?_⟩
  repeat' (first | (with_reducible exact Below.refl _ _) | (with_reducible assumption) | (with_reducible refine Below.drew ?_) | (with_reducible refine Below.alloc ?_ ?_ _) | (with_reducible refine Below.setCell ?_ ?_ _) | (with_reducible refine Flo.below_step ?_ (by assumption)) | (simp; done) | (simp; omega))
theorem hdigit_n3 (c : Nat) (hc : 103 ≤ c) (w : World) :
    Calls Try.prog 109 #[.int .i32 (c : Int)] w fun e w' => e = .returned (.int .i64 (-1)) ∧ Below w.heap.size w w' := by
  have g48 : (48 : Int) ≤ c := by omega
  have g97 : (97 : Int) ≤ c := by omega
  have g65 : (65 : Int) ≤ c := by omega
  have l57 : decide ((c : Int) ≤ 57) = false := decide_eq_false (by omega)
  have l102 : decide ((c : Int) ≤ 102) = false := decide_eq_false (by omega)
  have l70 : decide ((c : Int) ≤ 70) = false := decide_eq_false (by omega)
  clear hc
  go_enter Try.func109, Try.ntmps109
  go_wp2
  refine bodyPost_ret (v := .int .i64 (-1)) (by simp [results, Try.results109, go_sem]) rfl ⟨rfl, ?_⟩
  repeat' (first | (with_reducible exact Below.refl _ _) | (with_reducible assumption) | (with_reducible refine Below.drew ?_) | (with_reducible refine Below.alloc ?_ ?_ _) | (with_reducible refine Below.setCell ?_ ?_ _) | (with_reducible refine Flo.below_step ?_ (by assumption)) | (simp; done) | (simp; omega))
theorem hdigit_some (c d : Nat) (hd : hexd c = some d) (w : World) :
    Calls Try.prog 109 #[.int .i32 (c : Int)] w fun e w' => e = .returned (.int .i64 (d : Int)) ∧ Below w.heap.size w w' := by
  unfold hexd at hd
  split at hd
  · cases hd; exact hdigit_y0 c ‹_› w
  · split at hd
    · cases hd; exact hdigit_y1 c ‹_› w
    · split at hd
      · cases hd; exact hdigit_y2 c ‹_› w
      · cases hd
theorem hdigit_none (c : Nat) (hd : hexd c = none) (w : World) :
    Calls Try.prog 109 #[.int .i32 (c : Int)] w fun e w' => e = .returned (.int .i64 (-1)) ∧ Below w.heap.size w w' := by
  rcases hexd_none hd with h | h | h | h
  · exact hdigit_n0 c h w
  · exact hdigit_n1 c h w
  · exact hdigit_n2 c h w
  · exact hdigit_n3 c h w

theorem r3digit_y0 (c : Nat) (hc : 48 ≤ c ∧ c ≤ 57) (w : World) :
    Calls Try.prog 134 #[.int .u8 (c : Int)] w fun e w' => e = .returned (.int .i64 ((c - 48 : Nat) : Int)) ∧ Below w.heap.size w w' := by
  have e : (c : Int) - 48 = ((c - 48 : Nat) : Int) := by omega
  have g48 : (48 : Int) ≤ c := by omega
  have g97 : decide ((97 : Int) ≤ c) = false := decide_eq_false (by omega)
  have g65 : decide ((65 : Int) ≤ c) = false := decide_eq_false (by omega)
  have l57 : (c : Int) ≤ 57 := by omega
  have l102 : (c : Int) ≤ 102 := by omega
  have l70 : (c : Int) ≤ 70 := by omega
  clear hc
  go_enter Try.func134, Try.ntmps134
  go_wp2
  (try rw [e])
  refine bodyPost_ret (v := .int .i64 ((c - 48 : Nat) : Int)) (by simp [results, Try.results134, go_sem]) rfl ⟨rfl, ?_⟩
  repeat' (first | (with_reducible exact Below.refl _ _) | (with_reducible assumption) | (with_reducible refine Below.drew ?_) | (with_reducible refine Below.alloc ?_ ?_ _) | (with_reducible refine Below.setCell ?_ ?_ _) | (with_reducible refine Flo.below_step ?_ (by assumption)) | (simp; done) | (simp; omega))
theorem r3digit_y1 (c : Nat) (hc : 97 ≤ c ∧ c ≤ 102) (w : World) :
    Calls Try.prog 134 #[.int .u8 (c : Int)] w fun e w' => e = .returned (.int .i64 ((c - 87 : Nat) : Int)) ∧ Below w.heap.size w w' := by
  have e : (c : Int) - 97 + 10 = ((c - 87 : Nat) : Int) := by omega
  have g48 : (48 : Int) ≤ c := by omega
  have g97 : (97 : Int) ≤ c := by omega
  have g65 : (65 : Int) ≤ c := by omega
  have l57 : decide ((c : Int) ≤ 57) = false := decide_eq_false (by omega)
  have l102 : (c : Int) ≤ 102 := by omega
  have l70 : decide ((c : Int) ≤ 70) = false := decide_eq_false (by omega)
  clear hc
  go_enter Try.func134, Try.ntmps134
  go_wp2
  (try rw [e])
  refine bodyPost_ret (v := .int .i64 ((c - 87 : Nat) : Int)) (by simp [results, Try.results134, go_sem]) rfl ⟨rfl, ?_⟩
  repeat' (first | (with_reducible exact Below.refl _ _) | (with_reducible assumption) | (with_reducible refine Below.drew ?_) | (with_reducible refine Below.alloc ?_ ?_ _) | (with_reducible refine Below.setCell ?_ ?_ _) | (with_reducible refine Flo.below_step ?_ (by assumption)) | (simp; done) | (simp; omega))
theorem r3digit_y2 (c : Nat) (hc : 65 ≤ c ∧ c ≤ 70) (w : World) :
    Calls Try.prog 134 #[.int .u8 (c : Int)] w fun e w' => e = .returned (.int .i64 ((c - 55 : Nat) : Int)) ∧ Below w.heap.size w w' := by
  have e : (c : Int) - 65 + 10 = ((c - 55 : Nat) : Int) := by omega
  have g48 : (48 : Int) ≤ c := by omega
  have g97 : decide ((97 : Int) ≤ c) = false := decide_eq_false (by omega)
  have g65 : (65 : Int) ≤ c := by omega
  have l57 : decide ((c : Int) ≤ 57) = false := decide_eq_false (by omega)
  have l102 : (c : Int) ≤ 102 := by omega
  have l70 : (c : Int) ≤ 70 := by omega
  clear hc
  go_enter Try.func134, Try.ntmps134
  go_wp2
  (try rw [e])
  refine bodyPost_ret (v := .int .i64 ((c - 55 : Nat) : Int)) (by simp [results, Try.results134, go_sem]) rfl ⟨rfl, ?_⟩
  repeat' (first | (with_reducible exact Below.refl _ _) | (with_reducible assumption) | (with_reducible refine Below.drew ?_) | (with_reducible refine Below.alloc ?_ ?_ _) | (with_reducible refine Below.setCell ?_ ?_ _) | (with_reducible refine Flo.below_step ?_ (by assumption)) | (simp; done) | (simp; omega))
theorem r3digit_n0 (c : Nat) (hc : 0 ≤ c ∧ c ≤ 47) (w : World) :
    Calls Try.prog 134 #[.int .u8 (c : Int)] w fun e w' => e = .returned (.int .i64 (-1)) ∧ Below w.heap.size w w' := by
  have g48 : decide ((48 : Int) ≤ c) = false := decide_eq_false (by omega)
  have g97 : decide ((97 : Int) ≤ c) = false := decide_eq_false (by omega)
  have g65 : decide ((65 : Int) ≤ c) = false := decide_eq_false (by omega)
  have l57 : (c : Int) ≤ 57 := by omega
  have l102 : (c : Int) ≤ 102 := by omega
  have l70 : (c : Int) ≤ 70 := by omega
  clear hc
  go_enter Try.func134, Try.ntmps134
  go_wp2
  refine bodyPost_ret (v := .int .i64 (-1)) (by simp [results, Try.results134, go_sem]) rfl ⟨rfl, ?_⟩
  repeat' (first | (with_reducible exact Below.refl _ _) | (with_reducible assumption) | (with_reducible refine Below.drew ?_) | (with_reducible refine Below.alloc ?_ ?_ _) | (with_reducible refine Below.setCell ?_ ?_ _) | (with_reducible refine Flo.below_step ?_ (by assumption)) | (simp; done) | (simp; omega))
theorem r3digit_n1 (c : Nat) (hc : 58 ≤ c ∧ c ≤ 64) (w : World) :
    Calls Try.prog 134 #[.int .u8 (c : Int)] w fun e w' => e = .returned (.int .i64 (-1)) ∧ Below w.heap.size w w' := by
  have g48 : (48 : Int) ≤ c := by omega
  have g97 : decide ((97 : Int) ≤ c) = false := decide_eq_false (by omega)
  have g65 : decide ((65 : Int) ≤ c) = false := decide_eq_false (by omega)
  have l57 : decide ((c : Int) ≤ 57) = false := decide_eq_false (by omega)
  have l102 : (c : Int) ≤ 102 := by omega
  have l70 : (c : Int) ≤ 70 := by omega
  clear hc
  go_enter Try.func134, Try.ntmps134
  go_wp2
  refine bodyPost_ret (v := .int .i64 (-1)) (by simp [results, Try.results134, go_sem]) rfl ⟨rfl, ?_⟩
  repeat' (first | (with_reducible exact Below.refl _ _) | (with_reducible assumption) | (with_reducible refine Below.drew ?_) | (with_reducible refine Below.alloc ?_ ?_ _) | (with_reducible refine Below.setCell ?_ ?_ _) | (with_reducible refine Flo.below_step ?_ (by assumption)) | (simp; done) | (simp; omega))
theorem r3digit_n2 (c : Nat) (hc : 71 ≤ c ∧ c ≤ 96) (w : World) :
    Calls Try.prog 134 #[.int .u8 (c : Int)] w fun e w' => e = .returned (.int .i64 (-1)) ∧ Below w.heap.size w w' := by
  have g48 : (48 : Int) ≤ c := by omega
  have g97 : decide ((97 : Int) ≤ c) = false := decide_eq_false (by omega)
  have g65 : (65 : Int) ≤ c := by omega
  have l57 : decide ((c : Int) ≤ 57) = false := decide_eq_false (by omega)
  have l102 : (c : Int) ≤ 102 := by omega
  have l70 : decide ((c : Int) ≤ 70) = false := decide_eq_false (by omega)
  clear hc
  go_enter Try.func134, Try.ntmps134
  go_wp2
  refine bodyPost_ret (v := .int .i64 (-1)) (by simp [results, Try.results134, go_sem]) rfl ⟨rfl, ?_⟩
  repeat' (first | (with_reducible exact Below.refl _ _) | (with_reducible assumption) | (with_reducible refine Below.drew ?_) | (with_reducible refine Below.alloc ?_ ?_ _) | (with_reducible refine Below.setCell ?_ ?_ _) | (with_reducible refine Flo.below_step ?_ (by assumption)) | (simp; done) | (simp; omega))
theorem r3digit_n3 (c : Nat) (hc : 103 ≤ c) (w : World) :
    Calls Try.prog 134 #[.int .u8 (c : Int)] w fun e w' => e = .returned (.int .i64 (-1)) ∧ Below w.heap.size w w' := by
  have g48 : (48 : Int) ≤ c := by omega
  have g97 : (97 : Int) ≤ c := by omega
  have g65 : (65 : Int) ≤ c := by omega
  have l57 : decide ((c : Int) ≤ 57) = false := decide_eq_false (by omega)
  have l102 : decide ((c : Int) ≤ 102) = false := decide_eq_false (by omega)
  have l70 : decide ((c : Int) ≤ 70) = false := decide_eq_false (by omega)
  clear hc
  go_enter Try.func134, Try.ntmps134
  go_wp2
  refine bodyPost_ret (v := .int .i64 (-1)) (by simp [results, Try.results134, go_sem]) rfl ⟨rfl, ?_⟩
  repeat' (first | (with_reducible exact Below.refl _ _) | (with_reducible assumption) | (with_reducible refine Below.drew ?_) | (with_reducible refine Below.alloc ?_ ?_ _) | (with_reducible refine Below.setCell ?_ ?_ _) | (with_reducible refine Flo.below_step ?_ (by assumption)) | (simp; done) | (simp; omega))
theorem r3digit_some (c d : Nat) (hd : hexd c = some d) (w : World) :
    Calls Try.prog 134 #[.int .u8 (c : Int)] w fun e w' => e = .returned (.int .i64 (d : Int)) ∧ Below w.heap.size w w' := by
  unfold hexd at hd
  split at hd
  · cases hd; exact r3digit_y0 c ‹_› w
  · split at hd
    · cases hd; exact r3digit_y1 c ‹_› w
    · split at hd
      · cases hd; exact r3digit_y2 c ‹_› w
      · cases hd
theorem r3digit_none (c : Nat) (hd : hexd c = none) (w : World) :
    Calls Try.prog 134 #[.int .u8 (c : Int)] w fun e w' => e = .returned (.int .i64 (-1)) ∧ Below w.heap.size w w' := by
  rcases hexd_none hd with h | h | h | h
  · exact r3digit_n0 c h w
  · exact r3digit_n1 c h w
  · exact r3digit_n2 c h w
  · exact r3digit_n3 c h w

end Go.Proofs.Ytkgjgdeaclefiaa

/-! hash.Parse. -/
namespace Go.Flo
open Go Go.RowKit
def hv (l : List UInt8) (i : Nat) : Nat := hexv (l[i]?.getD 0)
/-- Byte j when t signs have come. -/
def unf (l : List UInt8) (t j : Nat) : UInt8 := if 2 * (31 - j) + 1 < t then UInt8.ofNat (hv l (2 * (31 - j)) * 16 + hv l (2 * (31 - j) + 1)) else if 2 * (31 - j) < t then UInt8.ofNat (hv l (2 * (31 - j))) else 0
/-- A text as a hash: the hash, and what is wrong. -/
def parseT (l : List UInt8) : List UInt8 × Nat := if l.length = 64 ∧ l.all isHex = true then (tab 32 (unf l 64), 0) else (nought, 2)
theorem parseT_length (l : List UInt8) : (parseT l).1.length = 32 := by unfold parseT; split <;> rfl
theorem unf_zero (l : List UInt8) : tab 32 (unf l 0) = nought := by
  refine tab_congr fun i _ => ?_
  unfold unf
  rw [if_neg (by omega), if_neg (by omega)]
theorem or_nib (a d : Nat) (ha : a < 16) (hd : d < 16) : bits .or .u8 ((a : Int) * 16 % 256) (d : Int) = ((a * 16 + d : Nat) : Int) := by
  have key : ∀ a d : Fin 16, bits .or .u8 ((a.1 : Int) * 16 % 256) (d.1 : Int) = ((a.1 * 16 + d.1 : Nat) : Int) := by decide +kernel
  exact key ⟨a, ha⟩ ⟨d, hd⟩
/-- One sign more: its byte. -/
theorem unf_put (l : List UInt8) (t : Nat) (ht : t < 64) : bits .or .u8 (((unf l t (31 - t / 2)).toNat : Int) * 16 % 256) (hv l t : Int) = ((unf l (t + 1) (31 - t / 2)).toNat : Int) := by
  have e : 31 - (31 - t / 2) = t / 2 := by omega
  have hd : hv l t < 16 := hexv_lt _
  unfold unf
  rw [e]
  rcases Nat.mod_two_eq_zero_or_one t with h | h
  · have e2 : 2 * (t / 2) = t := by omega
    rw [e2, if_neg (by omega), if_neg (by omega), if_neg (by omega), if_pos (by omega)]
    have := or_nib 0 (hv l t) (by decide) hd
    rw [show ((0 : UInt8).toNat : Int) = ((0 : Nat) : Int) from rfl, this, Nat.zero_mul, Nat.zero_add]
    rw [UInt8.toNat_ofNat_of_lt' (by show _ < 256; omega)]
  · have e2 : 2 * (t / 2) + 1 = t := by omega
    have e3 : 2 * (t / 2) = t - 1 := by omega
    have hd' : hv l (t - 1) < 16 := hexv_lt _
    rw [e2, e3, if_neg (by omega), if_pos (by omega), if_pos (by omega)]
    rw [UInt8.toNat_ofNat_of_lt' (by show _ < 256; omega), or_nib _ _ hd' hd, UInt8.toNat_ofNat_of_lt' (by show _ < 256; omega)]
theorem unf_next (l : List UInt8) (t : Nat) (ht : t < 64) (j : Nat) (hj : j < 32) : (if j = 31 - t / 2 then unf l (t + 1) (31 - t / 2) else unf l t j) = unf l (t + 1) j := by
  split
  · rename_i e; rw [e]
  · have h1 : (2 * (31 - j) + 1 < t) = (2 * (31 - j) + 1 < t + 1) := by rw [eq_iff_iff]; omega
    have h2 : (2 * (31 - j) < t) = (2 * (31 - j) < t + 1) := by rw [eq_iff_iff]; omega
    unfold unf
    simp only [h1, h2]
theorem results_cell_row2 {P : Program} {fn : Func} {p q : Tmp} {ty : TypeId} (h : fn.results = #[.cell p ty, .tmp q]) (tmps : Array Value) (w : World) (g : Nat) (t : TypeId) (cs : Array Value) (fr : Nat × Nat) (d : TypeDesc)
    (hp : tmps.getD p undef = .pointer (some ⟨g, 0, none⟩)) (hg : w.heap[g]? = some (.cells cs t fr))
    (hu : P.underlying ty = some d) (hd : (match d with | .struct _ | .array _ _ => true | _ => false) = true) (hi : (P.info? ty).map (·.size) = some cs.size) :
    (results fn tmps).run P w = .ok (.tuple #[.agg cs, tmps.getD q undef]) w := by
  have hp' : tmps[p]?.getD undef = .pointer (some ⟨g, 0, none⟩) := by simpa using hp
  simp [results, h, hp', asAddr, run_loadVar_row w g t ty cs fr d hg hu hd hi]
end Go.Flo
namespace Go.Proofs.Ytkgjgdeaclefiaa
open Go Go.Proofs Go.RowKit Go.Flo

structure HpR (s : ByteArray) (w0 : World) (wr : World) (t : Nat) : Prop where
  le : t ≤ s.size
  all : (s.data.toList.take t).all isHex = true
  mem : Mem w0 wr [.o (w0.heap.size + 1 + 1) (.stringIter s t), .c (w0.heap.size + 1) (bA (tab 32 (unf s.data.toList t))) 23, .c w0.heap.size (bA nought) 23]

set_option maxRecDepth 100000 in
set_option maxHeartbeats 2000000 in
theorem hparse_len (s : ByteArray) (w0 : World) (hs : s.size ≠ 64) :
    Calls Try.prog 28 #[.string s] w0 fun e w' => e = .returned (.tuple #[.agg (bA nought), .int .i64 2]) ∧ Below w0.heap.size w0 w' := by
  have hs' : ((s.size : Int) != 64) = true := by rw [bne_iff_ne]; omega
  clear hs
  have M := Mem.nil w0; have F := Mem.facts M; simp only [MemFacts] at F; (try simp only [ApartFacts] at F)
  go_enter Try.func28, Try.ntmps28
  go_wp2_with (first | (refine wl_box rfl 23 _ rfl rfl ?_) | (refine wl_alloc rfl 23 rfl hshZ ?_) | (refine wl_load rfl 23 _ rfl hshT rfl (Mem.at (w0 := w0) 0 (by repeat' (first | (with_reducible exact M) | (with_reducible apply Mem.drew) | (with_reducible apply Mem.alloc') | (simp only [World.size_alloc]; exact rfl) | exact rfl)) (by rfl)) (by rw [bA_size]; exact nought_length) ?_) | (refine wl_store rfl 23 _ _ rfl hshT rfl rfl (Mem.at (w0 := w0) 1 (by repeat' (first | (with_reducible exact M) | (with_reducible apply Mem.drew) | (with_reducible apply Mem.alloc') | (simp only [World.size_alloc]; exact rfl) | exact rfl)) (by rfl)) (by first | exact rfl | (rw [bA_size]; exact nought_length)) (by rw [bA_size]; exact nought_length) (by first | exact bA_one _ | decide) ?_))
  replace M := Mem.alloc (Mem.alloc M (cs := bA nought) (t := 23)) (cs := bA nought) (t := 23)
  simp only [World.size_alloc] at M
  have M2 := M.row 1 rfl (bA nought)
  refine bodyPost_ret (results_cell_row2 Try.results28 _ _ w0.heap.size 23 (bA nought) (0, 0) _ rfl (M2.at 1 rfl) hshT.under rfl (by rw [bA_size, nought_length]; exact hshT.size)) rfl ⟨rfl, M2.below⟩

set_option maxRecDepth 100000 in
set_option maxHeartbeats 2000000 in
theorem hparse_64 (s : ByteArray) (w0 : World) (hs : s.size = 64) :
    Calls Try.prog 28 #[.string s] w0 fun e w' => e = .returned (.tuple #[.agg (bA (parseT s.data.toList).1), .int .i64 (parseT s.data.toList).2]) ∧ Below w0.heap.size w0 w' := by
  have hs' : ((s.size : Int) != 64) = false := by rw [bne_eq_false_iff_eq]; omega
  have HS := Lib.hid hs
  clear hs
  have M := Mem.nil w0; have F := Mem.facts M; simp only [MemFacts] at F; (try simp only [ApartFacts] at F)
  go_enter Try.func28, Try.ntmps28
  go_wp2_with (first | (refine wl_box rfl 23 _ rfl rfl ?_) | (refine wl_alloc rfl 23 rfl hshZ ?_))
  replace M := Mem.alloc (Mem.alloc M (cs := bA nought) (t := 23)) (cs := bA nought) (t := 23)
  simp only [World.size_alloc] at M
  go_loopw [] (fun wr => ∃ t, HpR s w0 wr t) (fun wr => s.size - wr.iterPos (w0.heap.size + 1 + 1))
  case atStart =>
    refine ⟨0, Nat.zero_le _, rfl, ?_⟩
    rw [unf_zero]
    exact Mem.allocO (by simp) M
  case round =>
    clear M F
    obtain ⟨t, le, hall, M⟩ := hrel
    have F := Mem.facts M; simp only [MemFacts] at F; (try simp only [ApartFacts] at F)
    have HM := Lib.hid M
    have hit := M.obj 0 rfl
    have Hall := Lib.hid hall
    clear M hall
    rcases Nat.lt_or_ge t s.size with hlt | hge
    · have htk : s.data.toList.take (t + 1) = s.data.toList.take t ++ [s[t]] := take_snoc8 _ t (by simpa using hlt)
      have ht64 : t < 64 := by have := HS.out; omega
      cases hd : hexd s[t].toNat with
      | some d =>
        have h128 : s[t].toNat < 128 := by
          rcases Nat.lt_or_ge s[t].toNat 128 with h | h
          · exact h
          · rw [hexd_high h] at hd; cases hd
        have hnx := fun ty => Lib.run_next_ascii_at (P := Try.prog) wr _ s t ty hit hlt h128
        have d16 := hexd_lt hd
        have hvd : hv s.data.toList t = d := by
          unfold hv
          rw [List.getElem?_eq_getElem (by simpa using hlt)]
          show hexv s[t] = d
          unfold hexv; rw [hd]; rfl
        have ea : (s.data.toList.take (t + 1)).all isHex = true := by
          rw [htk, List.all_append, Hall.out]
          simp [isHex, hd]
        obtain ⟨j, hj⟩ : ∃ j, j = 31 - t / 2 := ⟨_, rfl⟩
        have hj' : (31 : Int) - (t : Int) / 2 = (j : Int) := by omega
        have j32 : j < 32 := by omega
        have j32' : (j : Int) < 32 := by omega
        have hput := unf_put s.data.toList t ht64
        have hnxt := unf_next s.data.toList t ht64
        rw [← hj, hvd] at hput
        rw [← hj] at hnxt
        have hcell : (bA (tab 32 (unf s.data.toList t)))[j]? = some (.int .u8 ((unf s.data.toList t j).toNat : Int)) := by rw [bA_get (by simpa using j32), at8_tab j32]
        have hbyte := (unf s.data.toList t j).toNat_lt
        have hb0 : ((unf s.data.toList t j).toNat : Int) < 256 := by omega
        generalize unf s.data.toList t j = o at *
        have d256 : (d : Int) < 256 := by omega
        have dne : ((d : Int) == -1) = false := by rw [beq_eq_false_iff_ne]; omega
        have Hd := Lib.hid hd
        have Ea := Lib.hid ea
        have Hput := Lib.hid hput
        have Hnxt := Lib.hid hnxt
        have Hj := Lib.hid hj
        clear hd htk hit F hvd ea hput hnxt hj hbyte ht64
        have M := HM.out.iter 0 rfl (t + 1)
        dsimp only [List.set_cons_zero] at M
        have F := Mem.facts M; simp only [MemFacts] at F; (try simp only [ApartFacts] at F)
        go_wp2_with (first | (go_at_call 109; (with_reducible refine ((hdigit_some _ d Hd.out) _).mono ?_); rintro e w1 ⟨rfl, hb⟩; replace M := Mem.call (w0 := w0) (by repeat' (first | (with_reducible exact M) | (with_reducible apply Mem.drew) | (with_reducible apply Mem.alloc))) hb; clear hb; (try clear F); (try simp only [World.size_alloc] at M); (try simp only [heap_drew] at M); have F := Mem.facts M; simp only [MemFacts] at F; (try simp only [ApartFacts] at F)))
        rw [Hput.out]
        have M2 := M.put 1 rfl j (.int .u8 ((unf s.data.toList (t + 1) j).toNat : Int))
        dsimp only [List.set_cons_zero, List.set_cons_succ] at M2
        rw [bA_tab_set, tab_congr Hnxt.out] at M2
        refine ⟨⟨t + 1, hlt, Ea.out, M2⟩, ?_⟩
        rw [iterPos_at (M2.obj 0 rfl), iterPos_at (HM.out.obj 0 rfl)]
        omega
      | none =>
        have hr : hexd (Utf8.decode s t).1 = none := by
          rcases Nat.lt_or_ge s[t].toNat 128 with h | h
          · rw [decode_ascii s t hlt h]; exact hd
          · exact hexd_high (decode_high s t hlt h).1
        have hnx := fun ty => Lib.run_next_any_at (P := Try.prog) wr _ s t ty hit hlt
        have Hd := Lib.hid hd
        have Hr := Lib.hid hr
        have Htk := Lib.hid htk
        clear hd htk hit F hr
        have M := HM.out.iter 0 rfl (t + (Utf8.decode s t).2)
        dsimp only [List.set_cons_zero] at M
        have ep : parseT s.data.toList = (nought, 2) := by
          have hne : ¬ s.data.toList.all isHex = true := fun h => by
            have := List.all_eq_true.1 h s[t] (List.getElem_mem (l := s.data.toList) (n := t) (by simpa using hlt))
            rw [isHex, Hd.out] at this
            cases this
          unfold parseT
          rw [if_neg (fun h => hne h.2)]
        have Ep := Lib.hid ep
        clear ep
        have bn := nought_length
        go_wp2_with (first | (go_at_call 109; (with_reducible refine (hdigit_none _ Hr.out _).mono ?_); rintro e w1 ⟨rfl, hb⟩; replace M := Mem.call (w0 := w0) (by repeat' (first | (with_reducible exact M) | (with_reducible apply Mem.drew) | (with_reducible apply Mem.alloc))) hb; clear hb; (try clear F); (try simp only [World.size_alloc] at M); (try simp only [heap_drew] at M); have F := Mem.facts M; simp only [MemFacts] at F; (try simp only [ApartFacts] at F)) | (refine wl_store (c := bA nought) rfl 23 _ _ rfl hshT rfl (by rw [bA_nought]; rfl) (Mem.at (w0 := w0) 2 (by repeat' (first | (with_reducible exact M) | (with_reducible apply Mem.drew) | (with_reducible apply Mem.alloc') | (simp only [World.size_alloc]; exact rfl) | exact rfl)) (by rfl)) (by rw [bA_size]; exact nought_length) (by rw [bA_size]; exact nought_length) (bA_one _) ?_))
        rw [Ep.out]
        have M2 := M.row 2 rfl (bA nought)
        refine bodyPost_ret (results_cell_row2 Try.results28 _ _ w0.heap.size 23 _ (0, 0) _ rfl (M2.at 2 rfl) hshT.under rfl (by rw [bA_size, nought_length]; exact hshT.size)) rfl ⟨rfl, M2.below⟩
    · obtain rfl : t = s.size := by omega
      have htk : s.data.toList.take s.size = s.data.toList := List.take_of_length_le (by simp)
      have hnx := fun ty => Lib.run_next_end_at (P := Try.prog) wr _ s s.size ty hit (Nat.lt_irrefl _)
      have M := HM.out
      have hA := Hall.out
      rw [htk] at hA
      have Ep : Hid (parseT s.data.toList = (tab 32 (unf s.data.toList 64), 0)) := by
        unfold parseT
        rw [if_pos ⟨by rw [← HS.out]; simp, hA⟩]
        rfl
      rw [HS.out] at M F
      have hl : (tab 32 (unf s.data.toList 64)).length = 32 := tab_length _ _
      clear HM Hall hit htk hA
      go_wp2_with (first | (refine wl_load rfl 23 _ rfl hshT rfl (Mem.at (w0 := w0) 1 (by repeat' (first | (with_reducible exact M) | (with_reducible apply Mem.drew) | (with_reducible apply Mem.alloc') | (simp only [World.size_alloc]; exact rfl) | exact rfl)) (by rfl)) (by rw [bA_size]; exact hl) ?_) | (refine wl_store rfl 23 _ _ rfl hshT rfl rfl (Mem.at (w0 := w0) 2 (by repeat' (first | (with_reducible exact M) | (with_reducible apply Mem.drew) | (with_reducible apply Mem.alloc') | (simp only [World.size_alloc]; exact rfl) | exact rfl)) (by rfl)) (by first | exact rfl | (rw [bA_size]; exact hl)) (by rw [bA_size]; exact nought_length) (by first | exact bA_one _ | decide) ?_))
      rw [Ep.out]
      have M2 := M.row 2 rfl (bA (tab 32 (unf s.data.toList 64)))
      refine bodyPost_ret (results_cell_row2 Try.results28 _ _ w0.heap.size 23 _ (0, 0) _ rfl (M2.at 2 rfl) hshT.under rfl (by rw [bA_size, hl]; exact hshT.size)) rfl ⟨rfl, M2.below⟩

theorem hparse_c (s : ByteArray) (w0 : World) :
    Calls Try.prog 28 #[.string s] w0 fun e w' => e = .returned (.tuple #[.agg (bA (parseT s.data.toList).1), .int .i64 (parseT s.data.toList).2]) ∧ Below w0.heap.size w0 w' := by
  by_cases hs : s.size = 64
  · exact hparse_64 s w0 hs
  · have e : parseT s.data.toList = (nought, 2) := by unfold parseT; rw [if_neg fun h => hs (by rw [← h.1]; simp)]
    rw [e]
    exact hparse_len s w0 hs
end Go.Proofs.Ytkgjgdeaclefiaa
