/-
  florinlaw02.cube, Sha2Roots: the walk.
-/
import Derived.Test.YtkgjgdeaclefiaaPr1
namespace Go.Proofs.Ytkgjgdeaclefiaa
open Go Go.Proofs Go.RowKit Go.Flo

set_option maxRecDepth 100000 in
set_option maxHeartbeats 2000000 in
theorem cube_main (x : Int) (m q r : Nat) (b1 b2 : Bool) (w0 : World) (O1 : Gives 72 #[.int .u64 x] (uV m)) (M1 : Gives 65 #[uV m, .int .u64 x] (.tuple #[uV q, .bool b1])) (M2 : Gives 65 #[uV q, .int .u64 x] (.tuple #[uV r, .bool b2])) :
    Calls Try.prog 95 #[.int .u64 x] w0 fun e w' => e = .returned (uV r) ∧ Below w0.heap.size w0 w' := by
  have M := Mem.nil w0; have F := Mem.facts M; simp only [MemFacts] at F; (try simp only [ApartFacts] at F)
  go_enter Try.func95, Try.ntmps95
  go_wp2_with (first | (go_at_call 72; (with_reducible refine (O1 _).mono ?_); rintro o w1 ⟨rfl, hb⟩; replace M := Mem.call (w0 := w0) (by repeat' (first | (with_reducible exact M) | (with_reducible apply Mem.drew) | (with_reducible apply Mem.alloc))) hb; clear hb; (try clear F); (try simp only [World.size_alloc] at M); (try simp only [heap_drew] at M); have F := Mem.facts M; simp only [MemFacts] at F; (try simp only [ApartFacts] at F)) | (go_at_call 65; (first | (with_reducible refine (M1 _).mono ?_) | (with_reducible refine (M2 _).mono ?_)); rintro o w1 ⟨rfl, hb⟩; replace M := Mem.call (w0 := w0) (by repeat' (first | (with_reducible exact M) | (with_reducible apply Mem.drew) | (with_reducible apply Mem.alloc))) hb; clear hb; (try clear F); (try simp only [World.size_alloc] at M); (try simp only [heap_drew] at M); have F := Mem.facts M; simp only [MemFacts] at F; (try simp only [ApartFacts] at F)))
  have M3 := (M.put4 1 rfl (.int .u64 (l0 r)) (.int .u64 (l1 r)) (.int .u64 (l2 r)) (.int .u64 (l3 r))).alloc (cs := #[.int .u64 (l0 r), .int .u64 (l1 r), .int .u64 (l2 r), .int .u64 (l3 r)]) (t := 32)
  (have hc := fun j => cell_of_row _ _ j _ _ _ (M3.at 2 rfl); refine bodyPost_ret (v := uV r) (by simp [results, Try.results95, go_sem, hc]) rfl ⟨rfl, M3.below⟩)
def rt3 (p : Nat) : Nat → Nat → Nat
  | 0, w => w
  | k + 1, w => if (w + 1) * (w + 1) * (w + 1) ≤ p then rt3 p k (w + 1) else w
def rt2 (p : Nat) : Nat → Nat → Nat
  | 0, w => w
  | k + 1, w => if (w + 1) * (w + 1) ≤ p then rt2 p k (w + 1) else w
structure R3R (p R : Nat) (wg : World) (v : Value) (wx : World) (t : Nat) : Prop where
  le : t ≤ 7
  v : v = .int .u64 ((1 + t : Nat) : Int)
  eq : rt3 p (10 - t) (1 + t) = R
  w : wx = wg
structure R2R (p R : Nat) (wg : World) (v : Value) (wx : World) (t : Nat) : Prop where
  le : t ≤ 20
  v : v = .int .u64 ((1 + t : Nat) : Int)
  eq : rt2 p (25 - t) (1 + t) = R
  w : wx = wg
set_option maxRecDepth 100000 in
set_option maxHeartbeats 4000000 in
theorem roots_hi (i K X : Int) (n p R of : Nat) (a1 b1 : Nat) (c1 c2 : Int) (lo : Bool) (w0 : World) (hn : bits .and .i64 i 63 = (n : Int)) (hn7 : 7 < (n : Int)) (hp : (p : Int) ≤ 401) (hR : rt3 p 10 1 = R) (hR7 : (R : Int) ≤ 8)
    (P1 : ∀ w, Calls Try.prog 94 #[.int .i64 (n : Int)] w fun e w' => e = .returned (.int .u64 (p : Int)) ∧ Below w.heap.size w w') (K1 : Gives 59 #[.int .i64 (n : Int)] (.int .u32 K)) (hX : bits .or .u64 ((R : Int) * 4294967296) K = X) (hX1 : 0 ≤ X) (hX2 : X ≤ 1099511627776) (hK1 : 0 ≤ K) (hK2 : K ≤ 4294967295)
    (O1 : Gives 72 #[.int .u64 (p : Int)] (uV p)) (S1 : Gives 74 #[uV p, .int .i64 96] (.tuple #[uV of, .bool lo])) (B1 : Gives 95 #[.int .u64 X] (uV a1)) (B2 : Gives 95 #[.int .u64 (X + 1)] (uV b1))
    (C1 : Gives 38 #[uV a1, uV of] (.int .i64 c1)) (C2 : Gives 38 #[uV b1, uV of] (.int .i64 c2)) (h1 : decide (0 < c1) = false) (h2 : decide (c2 ≤ 0) = false) (I1 : Gives 61 #[.int .i64 (n : Int)] (.int .u32 0)) :
    Calls Try.prog 20 #[.int .i64 i] w0 fun e w' => e = .returned (.bool true) ∧ Below w0.heap.size w0 w' := by
  have M := Mem.nil w0; have F := Mem.facts M; simp only [MemFacts] at F; (try simp only [ApartFacts] at F)
  go_enter Try.func20, Try.ntmps20
  go_wp2_with (first | (go_at_call 39; (with_reducible refine (awake2 _).mono ?_); rintro o w1 ⟨rfl, hb⟩; replace M := Mem.call (w0 := w0) (by repeat' (first | (with_reducible exact M) | (with_reducible apply Mem.drew) | (with_reducible apply Mem.alloc))) hb; clear hb; (try clear F); (try simp only [World.size_alloc] at M); (try simp only [heap_drew] at M); have F := Mem.facts M; simp only [MemFacts] at F; (try simp only [ApartFacts] at F)) | (go_at_call 94; (with_reducible refine (P1 _).mono ?_); rintro o w1 ⟨rfl, hb⟩; replace M := Mem.call (w0 := w0) (by repeat' (first | (with_reducible exact M) | (with_reducible apply Mem.drew) | (with_reducible apply Mem.alloc))) hb; clear hb; (try clear F); (try simp only [World.size_alloc] at M); (try simp only [heap_drew] at M); have F := Mem.facts M; simp only [MemFacts] at F; (try simp only [ApartFacts] at F)))
  ((try clear F); obtain ⟨wg, eg, M⟩ : ∃ wg, wg = _ ∧ Mem w0 wg _ := ⟨_, rfl, M⟩; (try unfold Flo.put4 at eg); rw [← eg]; clear eg; have F := Mem.facts M; simp only [MemFacts] at F; (try simp only [ApartFacts] at F))
  go_loopw [6] (fun v wx => ∃ t, R3R p R wg v wx t) (fun v _ => (100 - intU v).toNat)
  case atStart => exact ⟨0, by decide, rfl, hR, rfl⟩
  case round =>
    obtain ⟨t, le, rfl, eq, rfl⟩ := hrel
    obtain ⟨w, hw⟩ : ∃ w, w = 1 + t := ⟨_, rfl⟩
    rw [← hw] at eq ⊢
    have hst : rt3 p (10 - t) w = if (w + 1) * (w + 1) * (w + 1) ≤ p then rt3 p (9 - t) (w + 1) else w := by rw [show 10 - t = (9 - t) + 1 by omega]; rfl
    rw [hst] at eq
    have hw1 : (w : Int) ≤ 8 := by omega
    have hm1 : ((w : Int) + 1) * ((w : Int) + 1) = (((w + 1) * (w + 1) : Nat) : Int) := by rw [Int.natCast_mul, Int.natCast_add]; rfl
    have hm2 : (((w + 1) * (w + 1) : Nat) : Int) * ((w : Int) + 1) = (((w + 1) * (w + 1) * (w + 1) : Nat) : Int) := by rw [Int.natCast_mul (((w + 1) * (w + 1) : Nat)), Int.natCast_add]; rfl
    have hb1 : (w + 1) * (w + 1) ≤ 9 * 9 := Nat.mul_le_mul (by omega) (by omega)
    have hb2 : (w + 1) * (w + 1) * (w + 1) ≤ 9 * 9 * 9 := Nat.mul_le_mul hb1 (by omega)
    have hbig : 8 ≤ w → 9 * 9 * 9 ≤ (w + 1) * (w + 1) * (w + 1) := fun h => Nat.mul_le_mul (Nat.mul_le_mul (by omega) (by omega)) (by omega)
    obtain ⟨s, hs⟩ : ∃ s, s = (w + 1) * (w + 1) * (w + 1) := ⟨_, rfl⟩
    rw [← hs] at hm2 hb2 hbig eq
    obtain ⟨u, hu⟩ : ∃ u, u = (w + 1) * (w + 1) := ⟨_, rfl⟩
    rw [← hu] at hm1 hm2 hb1
    have hu1 : (u : Int) ≤ 81 := by omega
    have hs1 : (s : Int) ≤ 729 := by omega
    have HW := Lib.hid hw
    have HB := Lib.hid hbig
    have HE := Lib.hid eq
    clear hw hst eq hs hu hb1 hb2 hbig
    by_cases hq : s ≤ p
    · have hq' : (s : Int) ≤ (p : Int) := by omega
      go_wp2
      have x1 := HW.out
      have x2 := HB.out
      have x3 := HE.out
      rw [if_pos hq] at x3
      refine ⟨⟨t + 1, by omega, by rw [x1]; congr 1 <;> omega, ?_, rfl⟩, by simp only [intU]; omega⟩
      rw [← x3, show 10 - (t + 1) = 9 - t by omega, show 1 + (t + 1) = w + 1 by omega]
    · have hq' : ¬ ((s : Int) ≤ (p : Int)) := by omega
      have x3 := HE.out
      rw [if_neg hq] at x3
      subst x3
      go_wp2_with (first | (go_at_call 59; (with_reducible refine (K1 _).mono ?_); rintro o w1 ⟨rfl, hb⟩; replace M := Mem.call (w0 := w0) (by repeat' (first | (with_reducible exact M) | (with_reducible apply Mem.drew) | (with_reducible apply Mem.alloc))) hb; clear hb; (try clear F); (try simp only [World.size_alloc] at M); (try simp only [heap_drew] at M); have F := Mem.facts M; simp only [MemFacts] at F; (try simp only [ApartFacts] at F)) | (go_at_call 72; (with_reducible refine (O1 _).mono ?_); rintro o w1 ⟨rfl, hb⟩; replace M := Mem.call (w0 := w0) (by repeat' (first | (with_reducible exact M) | (with_reducible apply Mem.drew) | (with_reducible apply Mem.alloc))) hb; clear hb; (try clear F); (try simp only [World.size_alloc] at M); (try simp only [heap_drew] at M); have F := Mem.facts M; simp only [MemFacts] at F; (try simp only [ApartFacts] at F)) | (go_at_call 74; (with_reducible refine (S1 _).mono ?_); rintro o w1 ⟨rfl, hb⟩; replace M := Mem.call (w0 := w0) (by repeat' (first | (with_reducible exact M) | (with_reducible apply Mem.drew) | (with_reducible apply Mem.alloc))) hb; clear hb; (try clear F); (try simp only [World.size_alloc] at M); (try simp only [heap_drew] at M); have F := Mem.facts M; simp only [MemFacts] at F; (try simp only [ApartFacts] at F)))
      replace M := Mem.alloc M (cs := #[.int .u64 (l0 of), .int .u64 (l1 of), .int .u64 (l2 of), .int .u64 (l3 of)]) (t := 32)
      ((try clear F); obtain ⟨wg, eg, M⟩ : ∃ wg, wg = _ ∧ Mem w0 wg _ := ⟨_, rfl, M⟩; (try unfold Flo.put4 at eg); rw [← eg]; clear eg; have F := Mem.facts M; simp only [MemFacts] at F; (try simp only [ApartFacts] at F))
      ((try simp only [List.append_eq, List.cons_append, List.nil_append]); refine Flo.N.wp_made (by kernel_rfl) (by decide +kernel) ?_; (repeat (first | (refine Flo.N.sx_skip (by exact rfl) (by exact rfl) ?_; simp only [Act.put, List.setIfInBounds_toArray, List.set_cons_zero, List.set_cons_succ]) | (refine Flo.N.sx_pure (by exact rfl) (by exact rfl) (by exact rfl) ?_; intro K hK; go_big_quiet_op; go_big_quiet_on) | (refine Flo.N.sx_free (by exact rfl) (by exact rfl) (by exact rfl) (by exact rfl) ?_; intro K hK; go_big_quiet_op; go_big_quiet_on) | (apply Flo.N.sx_alloc (by exact rfl) (by exact rfl); (focus (intro w; go_simp; first | done | exact rfl | exact ⟨rfl, rfl⟩)); intro b hn hfr; (try have hne := Flo.Fresh.ne hfr); simp only [Act.put, List.setIfInBounds_toArray, List.set_cons_zero, List.set_cons_succ]) | (apply Flo.N.sx_build _ (by exact rfl) (by exact rfl); (focus (intro w; go_simp; first | done | exact rfl | exact ⟨rfl, rfl⟩)); intro b hn hfr; (try have hne := Flo.Fresh.ne hfr); simp only [Act.put, List.setIfInBounds_toArray, List.set_cons_zero, List.set_cons_succ]) | (apply Flo.N.sx_give (by exact rfl) (by exact rfl); (focus (intro w hbW hh; apply Flo.gives_of; intro G hG; go_simp; apply hG _ _ (by kernel_rfl); clear hG G; first | (with_reducible exact B1 _) | (with_reducible exact B2 _) | (with_reducible exact C1 _) | (with_reducible exact C2 _))); simp only [Act.put, List.setIfInBounds_toArray, List.set_cons_zero, List.set_cons_succ]) | (refine Flo.N.sx_last (by exact rfl) (by exact rfl) ?_; intro w2 hJ K hK; first | (have hJ : Flo.Holds _ _ _ _ := hJ; (try have HJB := Lib.hid hJ.below); (first | (have hu1 := Flo.Holds.uncover (by exact rfl) hJ; have hu2 := Flo.Holds.uncover (by exact rfl) hu1.2; replace M := Flo.N.got2 (w0 := w0) (by repeat' (first | (with_reducible exact M) | (with_reducible apply Mem.drew) | (with_reducible apply Mem.alloc))) hJ.below hu2.1 hu1.1 hne; clear hu1 hu2) | (have hu1 := Flo.Holds.uncover (by exact rfl) hJ; replace M := Mem.got (w0 := w0) (x := .c _ _ _) (by repeat' (first | (with_reducible exact M) | (with_reducible apply Mem.drew) | (with_reducible apply Mem.alloc))) hJ.below hu1.1; clear hu1) | (replace M := Mem.call (w0 := w0) (by repeat' (first | (with_reducible exact M) | (with_reducible apply Mem.drew) | (with_reducible apply Mem.alloc))) hJ.below) | (have hB2 := hJ.below)); clear hJ; (try clear F); (try simp only [World.size_alloc] at M); (try simp only [heap_drew] at M); (try (have F := Mem.facts M; simp only [MemFacts] at F; (try simp only [ApartFacts] at F))); go_wp2_with (fail); (try refine ⟨rfl, ?_⟩)) | (have hJ : w2 = _ := hJ; subst hJ; go_wp2_with (fail); (try refine ⟨rfl, ?_⟩))))); (first | (refine Flo.N.sx_end ?_) | (refine Flo.N.sx_nil ?_; intro w2 hJ; (try have HJB := Lib.hid hJ.below); (first | (have hu1 := Flo.Holds.uncover (by exact rfl) hJ; have hu2 := Flo.Holds.uncover (by exact rfl) hu1.2; replace M := Flo.N.got2 (w0 := w0) (by repeat' (first | (with_reducible exact M) | (with_reducible apply Mem.drew) | (with_reducible apply Mem.alloc))) hJ.below hu2.1 hu1.1 hne; clear hu1 hu2) | (have hu1 := Flo.Holds.uncover (by exact rfl) hJ; replace M := Mem.got (w0 := w0) (x := .c _ _ _) (by repeat' (first | (with_reducible exact M) | (with_reducible apply Mem.drew) | (with_reducible apply Mem.alloc))) hJ.below hu1.1; clear hu1) | (replace M := Mem.call (w0 := w0) (by repeat' (first | (with_reducible exact M) | (with_reducible apply Mem.drew) | (with_reducible apply Mem.alloc))) hJ.below) | (have hB2 := hJ.below)); clear hJ; (try clear F); (try simp only [World.size_alloc] at M); (try simp only [heap_drew] at M); (try (have F := Mem.facts M; simp only [MemFacts] at F; (try simp only [ApartFacts] at F))))))
      go_wp2_with (first | (go_at_call 61; (with_reducible refine (I1 _).mono ?_); rintro o w1 ⟨rfl, hb⟩; replace M := Mem.call (w0 := w0) (by repeat' (first | (with_reducible exact M) | (with_reducible apply Mem.drew) | (with_reducible apply Mem.alloc))) hb; clear hb; (try clear F); (try simp only [World.size_alloc] at M); (try simp only [heap_drew] at M); have F := Mem.facts M; simp only [MemFacts] at F; (try simp only [ApartFacts] at F)))
      (go_wp2_with (fail); refine bodyPost_ret (v := .bool true) (by simp [results, Try.results20, go_sem]) rfl ⟨rfl, (Mem.below (w0 := w0) (by repeat' (first | (with_reducible exact M) | (with_reducible apply Mem.drew) | (with_reducible apply Mem.alloc))))⟩)
set_option maxRecDepth 100000 in
set_option maxHeartbeats 4000000 in
theorem roots_lo (i K X : Int) (n p R of : Nat) (a1 b1 : Nat) (c1 c2 : Int) (lo : Bool) (w0 : World) (hn : bits .and .i64 i 63 = (n : Int)) (hn7 : ¬ (7 < (n : Int))) (hp : (p : Int) ≤ 401) (hR : rt3 p 10 1 = R) (hR7 : (R : Int) ≤ 8)
    (P1 : ∀ w, Calls Try.prog 94 #[.int .i64 (n : Int)] w fun e w' => e = .returned (.int .u64 (p : Int)) ∧ Below w.heap.size w w') (K1 : Gives 59 #[.int .i64 (n : Int)] (.int .u32 K)) (hX : bits .or .u64 ((R : Int) * 4294967296) K = X) (hX1 : 0 ≤ X) (hX2 : X ≤ 1099511627776) (hK1 : 0 ≤ K) (hK2 : K ≤ 4294967295)
    (O1 : Gives 72 #[.int .u64 (p : Int)] (uV p)) (S1 : Gives 74 #[uV p, .int .i64 96] (.tuple #[uV of, .bool lo])) (B1 : Gives 95 #[.int .u64 X] (uV a1)) (B2 : Gives 95 #[.int .u64 (X + 1)] (uV b1))
    (C1 : Gives 38 #[uV a1, uV of] (.int .i64 c1)) (C2 : Gives 38 #[uV b1, uV of] (.int .i64 c2)) (h1 : decide (0 < c1) = false) (h2 : decide (c2 ≤ 0) = false) (R' : Nat) (H Y : Int) (to s1 t1 : Nat) (c3 c4 : Int) (lo2 lo3 lo4 : Bool) (y1 y2 : Nat) (hR2 : rt2 p 25 1 = R') (hR27 : (R' : Int) ≤ 21) (I1 : Gives 61 #[.int .i64 (n : Int)] (.int .u32 H)) (hH1 : 0 ≤ H) (hH2 : H ≤ 4294967295) (hY : bits .or .u64 ((R' : Int) * 4294967296) H = Y) (hY1 : 0 ≤ Y) (hY2 : Y ≤ 1099511627776)
    (S2 : Gives 74 #[uV p, .int .i64 64] (.tuple #[uV to, .bool lo2])) (O2 : Gives 72 #[.int .u64 Y] (uV y1)) (M1 : Gives 65 #[uV y1, .int .u64 Y] (.tuple #[uV s1, .bool lo3])) (O3 : Gives 72 #[.int .u64 (Y + 1)] (uV y2)) (M2 : Gives 65 #[uV y2, .int .u64 (Y + 1)] (.tuple #[uV t1, .bool lo4]))
    (C3 : Gives 38 #[uV s1, uV to] (.int .i64 c3)) (C4 : Gives 38 #[uV t1, uV to] (.int .i64 c4)) (h3 : decide (c3 ≤ 0) = true) (h4 : decide (0 < c4) = true) :
    Calls Try.prog 20 #[.int .i64 i] w0 fun e w' => e = .returned (.bool true) ∧ Below w0.heap.size w0 w' := by
  have M := Mem.nil w0; have F := Mem.facts M; simp only [MemFacts] at F; (try simp only [ApartFacts] at F)
  go_enter Try.func20, Try.ntmps20
  go_wp2_with (first | (go_at_call 39; (with_reducible refine (awake2 _).mono ?_); rintro o w1 ⟨rfl, hb⟩; replace M := Mem.call (w0 := w0) (by repeat' (first | (with_reducible exact M) | (with_reducible apply Mem.drew) | (with_reducible apply Mem.alloc))) hb; clear hb; (try clear F); (try simp only [World.size_alloc] at M); (try simp only [heap_drew] at M); have F := Mem.facts M; simp only [MemFacts] at F; (try simp only [ApartFacts] at F)) | (go_at_call 94; (with_reducible refine (P1 _).mono ?_); rintro o w1 ⟨rfl, hb⟩; replace M := Mem.call (w0 := w0) (by repeat' (first | (with_reducible exact M) | (with_reducible apply Mem.drew) | (with_reducible apply Mem.alloc))) hb; clear hb; (try clear F); (try simp only [World.size_alloc] at M); (try simp only [heap_drew] at M); have F := Mem.facts M; simp only [MemFacts] at F; (try simp only [ApartFacts] at F)))
  ((try clear F); obtain ⟨wg, eg, M⟩ : ∃ wg, wg = _ ∧ Mem w0 wg _ := ⟨_, rfl, M⟩; (try unfold Flo.put4 at eg); rw [← eg]; clear eg; have F := Mem.facts M; simp only [MemFacts] at F; (try simp only [ApartFacts] at F))
  go_loopw [6] (fun v wx => ∃ t, R3R p R wg v wx t) (fun v _ => (100 - intU v).toNat)
  case atStart => exact ⟨0, by decide, rfl, hR, rfl⟩
  case round =>
    obtain ⟨t, le, rfl, eq, rfl⟩ := hrel
    obtain ⟨w, hw⟩ : ∃ w, w = 1 + t := ⟨_, rfl⟩
    rw [← hw] at eq ⊢
    have hst : rt3 p (10 - t) w = if (w + 1) * (w + 1) * (w + 1) ≤ p then rt3 p (9 - t) (w + 1) else w := by rw [show 10 - t = (9 - t) + 1 by omega]; rfl
    rw [hst] at eq
    have hw1 : (w : Int) ≤ 8 := by omega
    have hm1 : ((w : Int) + 1) * ((w : Int) + 1) = (((w + 1) * (w + 1) : Nat) : Int) := by rw [Int.natCast_mul, Int.natCast_add]; rfl
    have hm2 : (((w + 1) * (w + 1) : Nat) : Int) * ((w : Int) + 1) = (((w + 1) * (w + 1) * (w + 1) : Nat) : Int) := by rw [Int.natCast_mul (((w + 1) * (w + 1) : Nat)), Int.natCast_add]; rfl
    have hb1 : (w + 1) * (w + 1) ≤ 9 * 9 := Nat.mul_le_mul (by omega) (by omega)
    have hb2 : (w + 1) * (w + 1) * (w + 1) ≤ 9 * 9 * 9 := Nat.mul_le_mul hb1 (by omega)
    have hbig : 8 ≤ w → 9 * 9 * 9 ≤ (w + 1) * (w + 1) * (w + 1) := fun h => Nat.mul_le_mul (Nat.mul_le_mul (by omega) (by omega)) (by omega)
    obtain ⟨s, hs⟩ : ∃ s, s = (w + 1) * (w + 1) * (w + 1) := ⟨_, rfl⟩
    rw [← hs] at hm2 hb2 hbig eq
    obtain ⟨u, hu⟩ : ∃ u, u = (w + 1) * (w + 1) := ⟨_, rfl⟩
    rw [← hu] at hm1 hm2 hb1
    have hu1 : (u : Int) ≤ 81 := by omega
    have hs1 : (s : Int) ≤ 729 := by omega
    have HW := Lib.hid hw
    have HB := Lib.hid hbig
    have HE := Lib.hid eq
    clear hw hst eq hs hu hb1 hb2 hbig
    by_cases hq : s ≤ p
    · have hq' : (s : Int) ≤ (p : Int) := by omega
      go_wp2
      have x1 := HW.out
      have x2 := HB.out
      have x3 := HE.out
      rw [if_pos hq] at x3
      refine ⟨⟨t + 1, by omega, by rw [x1]; congr 1 <;> omega, ?_, rfl⟩, by simp only [intU]; omega⟩
      rw [← x3, show 10 - (t + 1) = 9 - t by omega, show 1 + (t + 1) = w + 1 by omega]
    · have hq' : ¬ ((s : Int) ≤ (p : Int)) := by omega
      have x3 := HE.out
      rw [if_neg hq] at x3
      subst x3
      go_wp2_with (first | (go_at_call 59; (with_reducible refine (K1 _).mono ?_); rintro o w1 ⟨rfl, hb⟩; replace M := Mem.call (w0 := w0) (by repeat' (first | (with_reducible exact M) | (with_reducible apply Mem.drew) | (with_reducible apply Mem.alloc))) hb; clear hb; (try clear F); (try simp only [World.size_alloc] at M); (try simp only [heap_drew] at M); have F := Mem.facts M; simp only [MemFacts] at F; (try simp only [ApartFacts] at F)) | (go_at_call 72; (with_reducible refine (O1 _).mono ?_); rintro o w1 ⟨rfl, hb⟩; replace M := Mem.call (w0 := w0) (by repeat' (first | (with_reducible exact M) | (with_reducible apply Mem.drew) | (with_reducible apply Mem.alloc))) hb; clear hb; (try clear F); (try simp only [World.size_alloc] at M); (try simp only [heap_drew] at M); have F := Mem.facts M; simp only [MemFacts] at F; (try simp only [ApartFacts] at F)) | (go_at_call 74; (with_reducible refine (S1 _).mono ?_); rintro o w1 ⟨rfl, hb⟩; replace M := Mem.call (w0 := w0) (by repeat' (first | (with_reducible exact M) | (with_reducible apply Mem.drew) | (with_reducible apply Mem.alloc))) hb; clear hb; (try clear F); (try simp only [World.size_alloc] at M); (try simp only [heap_drew] at M); have F := Mem.facts M; simp only [MemFacts] at F; (try simp only [ApartFacts] at F)))
      replace M := Mem.alloc M (cs := #[.int .u64 (l0 of), .int .u64 (l1 of), .int .u64 (l2 of), .int .u64 (l3 of)]) (t := 32)
      ((try clear F); obtain ⟨wg, eg, M⟩ : ∃ wg, wg = _ ∧ Mem w0 wg _ := ⟨_, rfl, M⟩; (try unfold Flo.put4 at eg); rw [← eg]; clear eg; have F := Mem.facts M; simp only [MemFacts] at F; (try simp only [ApartFacts] at F))
      ((try simp only [List.append_eq, List.cons_append, List.nil_append]); refine Flo.N.wp_made (by kernel_rfl) (by decide +kernel) ?_; (repeat (first | (refine Flo.N.sx_skip (by exact rfl) (by exact rfl) ?_; simp only [Act.put, List.setIfInBounds_toArray, List.set_cons_zero, List.set_cons_succ]) | (refine Flo.N.sx_pure (by exact rfl) (by exact rfl) (by exact rfl) ?_; intro K hK; go_big_quiet_op; go_big_quiet_on) | (refine Flo.N.sx_free (by exact rfl) (by exact rfl) (by exact rfl) (by exact rfl) ?_; intro K hK; go_big_quiet_op; go_big_quiet_on) | (apply Flo.N.sx_alloc (by exact rfl) (by exact rfl); (focus (intro w; go_simp; first | done | exact rfl | exact ⟨rfl, rfl⟩)); intro b hn hfr; (try have hne := Flo.Fresh.ne hfr); simp only [Act.put, List.setIfInBounds_toArray, List.set_cons_zero, List.set_cons_succ]) | (apply Flo.N.sx_build _ (by exact rfl) (by exact rfl); (focus (intro w; go_simp; first | done | exact rfl | exact ⟨rfl, rfl⟩)); intro b hn hfr; (try have hne := Flo.Fresh.ne hfr); simp only [Act.put, List.setIfInBounds_toArray, List.set_cons_zero, List.set_cons_succ]) | (apply Flo.N.sx_give (by exact rfl) (by exact rfl); (focus (intro w hbW hh; apply Flo.gives_of; intro G hG; go_simp; apply hG _ _ (by kernel_rfl); clear hG G; first | (with_reducible exact B1 _) | (with_reducible exact B2 _) | (with_reducible exact C1 _) | (with_reducible exact C2 _))); simp only [Act.put, List.setIfInBounds_toArray, List.set_cons_zero, List.set_cons_succ]) | (refine Flo.N.sx_last (by exact rfl) (by exact rfl) ?_; intro w2 hJ K hK; first | (have hJ : Flo.Holds _ _ _ _ := hJ; (try have HJB := Lib.hid hJ.below); (first | (have hu1 := Flo.Holds.uncover (by exact rfl) hJ; have hu2 := Flo.Holds.uncover (by exact rfl) hu1.2; replace M := Flo.N.got2 (w0 := w0) (by repeat' (first | (with_reducible exact M) | (with_reducible apply Mem.drew) | (with_reducible apply Mem.alloc))) hJ.below hu2.1 hu1.1 hne; clear hu1 hu2) | (have hu1 := Flo.Holds.uncover (by exact rfl) hJ; replace M := Mem.got (w0 := w0) (x := .c _ _ _) (by repeat' (first | (with_reducible exact M) | (with_reducible apply Mem.drew) | (with_reducible apply Mem.alloc))) hJ.below hu1.1; clear hu1) | (replace M := Mem.call (w0 := w0) (by repeat' (first | (with_reducible exact M) | (with_reducible apply Mem.drew) | (with_reducible apply Mem.alloc))) hJ.below) | (have hB2 := hJ.below)); clear hJ; (try clear F); (try simp only [World.size_alloc] at M); (try simp only [heap_drew] at M); (try (have F := Mem.facts M; simp only [MemFacts] at F; (try simp only [ApartFacts] at F))); go_wp2_with (fail); (try refine ⟨rfl, ?_⟩)) | (have hJ : w2 = _ := hJ; subst hJ; go_wp2_with (fail); (try refine ⟨rfl, ?_⟩))))); (first | (refine Flo.N.sx_end ?_) | (refine Flo.N.sx_nil ?_; intro w2 hJ; (try have HJB := Lib.hid hJ.below); (first | (have hu1 := Flo.Holds.uncover (by exact rfl) hJ; have hu2 := Flo.Holds.uncover (by exact rfl) hu1.2; replace M := Flo.N.got2 (w0 := w0) (by repeat' (first | (with_reducible exact M) | (with_reducible apply Mem.drew) | (with_reducible apply Mem.alloc))) hJ.below hu2.1 hu1.1 hne; clear hu1 hu2) | (have hu1 := Flo.Holds.uncover (by exact rfl) hJ; replace M := Mem.got (w0 := w0) (x := .c _ _ _) (by repeat' (first | (with_reducible exact M) | (with_reducible apply Mem.drew) | (with_reducible apply Mem.alloc))) hJ.below hu1.1; clear hu1) | (replace M := Mem.call (w0 := w0) (by repeat' (first | (with_reducible exact M) | (with_reducible apply Mem.drew) | (with_reducible apply Mem.alloc))) hJ.below) | (have hB2 := hJ.below)); clear hJ; (try clear F); (try simp only [World.size_alloc] at M); (try simp only [heap_drew] at M); (try (have F := Mem.facts M; simp only [MemFacts] at F; (try simp only [ApartFacts] at F))))))
      go_wp2
      ((try clear F); obtain ⟨wg, eg, M⟩ : ∃ wg, wg = _ ∧ Mem w0 wg _ := ⟨_, rfl, M⟩; (try unfold Flo.put4 at eg); rw [← eg]; clear eg; have F := Mem.facts M; simp only [MemFacts] at F; (try simp only [ApartFacts] at F))
      go_loopw [10] (fun v wx => ∃ t, R2R p R' wg v wx t) (fun v _ => (100 - intU v).toNat)
      case atStart => exact ⟨0, by decide, rfl, hR2, rfl⟩
      case round =>
        obtain ⟨t, le, rfl, eq, rfl⟩ := hrel
        obtain ⟨z, hz⟩ : ∃ z, z = 1 + t := ⟨_, rfl⟩
        rw [← hz] at eq ⊢
        have hst : rt2 p (25 - t) z = if (z + 1) * (z + 1) ≤ p then rt2 p (24 - t) (z + 1) else z := by rw [show 25 - t = (24 - t) + 1 by omega]; rfl
        rw [hst] at eq
        have hz1 : (z : Int) ≤ 21 := by omega
        have hn1 : ((z : Int) + 1) * ((z : Int) + 1) = (((z + 1) * (z + 1) : Nat) : Int) := by rw [Int.natCast_mul, Int.natCast_add]; rfl
        have hb1 : (z + 1) * (z + 1) ≤ 22 * 22 := Nat.mul_le_mul (by omega) (by omega)
        have hbig : 21 ≤ z → 22 * 22 ≤ (z + 1) * (z + 1) := fun h => Nat.mul_le_mul (by omega) (by omega)
        obtain ⟨v, hv⟩ : ∃ v, v = (z + 1) * (z + 1) := ⟨_, rfl⟩
        rw [← hv] at hn1 hb1 hbig eq
        have hv1 : (v : Int) ≤ 484 := by omega
        have HZ := Lib.hid hz
        have HB2 := Lib.hid hbig
        have HE2 := Lib.hid eq
        clear hz hst eq hv hb1 hbig
        by_cases hq2 : v ≤ p
        · have hq2' : (v : Int) ≤ (p : Int) := by omega
          go_wp2
          have x1 := HZ.out
          have x2 := HB2.out
          have x3 := HE2.out
          rw [if_pos hq2] at x3
          refine ⟨⟨t + 1, by omega, by rw [x1]; congr 1 <;> omega, ?_, rfl⟩, by simp only [intU]; omega⟩
          rw [← x3, show 25 - (t + 1) = 24 - t by omega, show 1 + (t + 1) = z + 1 by omega]
        · have hq2' : ¬ ((v : Int) ≤ (p : Int)) := by omega
          have x3 := HE2.out
          rw [if_neg hq2] at x3
          subst x3
          go_wp2_with (first | (go_at_call 61; (with_reducible refine (I1 _).mono ?_); rintro o w1 ⟨rfl, hb⟩; replace M := Mem.call (w0 := w0) (by repeat' (first | (with_reducible exact M) | (with_reducible apply Mem.drew) | (with_reducible apply Mem.alloc))) hb; clear hb; (try clear F); (try simp only [World.size_alloc] at M); (try simp only [heap_drew] at M); have F := Mem.facts M; simp only [MemFacts] at F; (try simp only [ApartFacts] at F)) | (go_at_call 72; (first | (with_reducible refine (O1 _).mono ?_) | (with_reducible refine (O2 _).mono ?_) | (with_reducible refine (O3 _).mono ?_)); rintro o w1 ⟨rfl, hb⟩; replace M := Mem.call (w0 := w0) (by repeat' (first | (with_reducible exact M) | (with_reducible apply Mem.drew) | (with_reducible apply Mem.alloc))) hb; clear hb; (try clear F); (try simp only [World.size_alloc] at M); (try simp only [heap_drew] at M); have F := Mem.facts M; simp only [MemFacts] at F; (try simp only [ApartFacts] at F)) | (go_at_call 74; (with_reducible refine (S2 _).mono ?_); rintro o w1 ⟨rfl, hb⟩; replace M := Mem.call (w0 := w0) (by repeat' (first | (with_reducible exact M) | (with_reducible apply Mem.drew) | (with_reducible apply Mem.alloc))) hb; clear hb; (try clear F); (try simp only [World.size_alloc] at M); (try simp only [heap_drew] at M); have F := Mem.facts M; simp only [MemFacts] at F; (try simp only [ApartFacts] at F)) | (go_at_call 65; (first | (with_reducible refine (M1 _).mono ?_) | (with_reducible refine (M2 _).mono ?_)); rintro o w1 ⟨rfl, hb⟩; replace M := Mem.call (w0 := w0) (by repeat' (first | (with_reducible exact M) | (with_reducible apply Mem.drew) | (with_reducible apply Mem.alloc))) hb; clear hb; (try clear F); (try simp only [World.size_alloc] at M); (try simp only [heap_drew] at M); have F := Mem.facts M; simp only [MemFacts] at F; (try simp only [ApartFacts] at F)) | (go_at_call 38; (first | (with_reducible refine (C3 _).mono ?_) | (with_reducible refine (C4 _).mono ?_)); rintro o w1 ⟨rfl, hb⟩; replace M := Mem.call (w0 := w0) (by repeat' (first | (with_reducible exact M) | (with_reducible apply Mem.drew) | (with_reducible apply Mem.alloc))) hb; clear hb; (try clear F); (try simp only [World.size_alloc] at M); (try simp only [heap_drew] at M); have F := Mem.facts M; simp only [MemFacts] at F; (try simp only [ApartFacts] at F)))
          (go_wp2_with (fail); refine bodyPost_ret (v := .bool true) (by simp [results, Try.results20, go_sem]) rfl ⟨rfl, (Mem.below (w0 := w0) (by repeat' (first | (with_reducible exact M) | (with_reducible apply Mem.drew) | (with_reducible apply Mem.alloc))))⟩)
end Go.Proofs.Ytkgjgdeaclefiaa
