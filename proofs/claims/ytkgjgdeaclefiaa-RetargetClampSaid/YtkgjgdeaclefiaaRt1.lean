/-
  target.ratio, Scale.
-/
import Derived.Test.YtkgjgdeaclefiaaMeets
import Derived.Test.YtkgjgdeaclefiaaMk
namespace Go.Proofs.Ytkgjgdeaclefiaa
open Go Go.Proofs Go.RowKit Go.Flo

set_option maxRecDepth 100000 in
set_option maxHeartbeats 2000000 in
theorem ratio_main (t n d q0 r0 w r p z s : Nat) (lost lo2 over b0 b1 : Bool) (w0 : World) (O1 : Gives 72 #[.int .u64 (d : Int)] (uV d)) (D1 : Gives 75 #[uV t, uV d] (.tuple #[uV q0, uV r0, .bool b0]))
    (M1 : Gives 65 #[uV q0, .int .u64 (n : Int)] (.tuple #[uV w, .bool lost])) (M2 : Gives 65 #[uV r0, .int .u64 (n : Int)] (.tuple #[uV r, .bool lo2])) (D2 : Gives 75 #[uV r, uV d] (.tuple #[uV p, uV z, .bool b1]))
    (A1 : Gives 35 #[uV w, uV p] (.tuple #[uV s, .bool over])) :
    Calls Try.prog 138 #[uV t, .int .u64 (n : Int), .int .u64 (d : Int)] w0 fun e w' => e = .returned (.tuple #[uV s, .bool (lost || over)]) ∧ Below w0.heap.size w0 w' := by
  have M := Mem.nil w0; have F := Mem.facts M; simp only [MemFacts] at F; (try simp only [ApartFacts] at F)
  go_enter Try.func138, Try.ntmps138
  go_wp2
  replace M := Mem.alloc (Mem.alloc M (cs := #[.int .u64 (l0 t), .int .u64 (l1 t), .int .u64 (l2 t), .int .u64 (l3 t)]) (t := 32)) (cs := #[.int .u64 (0), .int .u64 (0), .int .u64 (0), .int .u64 (0)]) (t := 32)
  simp only [World.size_alloc] at M
  ((try clear F); obtain ⟨wg, eg, M⟩ : ∃ wg, wg = _ ∧ Mem w0 wg _ := ⟨_, rfl, M⟩; (try unfold Flo.put4 at eg); rw [← eg]; clear eg; have F := Mem.facts M; simp only [MemFacts] at F; (try simp only [ApartFacts] at F))
  ((try simp only [List.append_eq, List.cons_append, List.nil_append]); refine Flo.N.wp_made (by kernel_rfl) (by decide +kernel) ?_; (repeat (first | (refine Flo.N.sx_skip (by exact rfl) (by exact rfl) ?_; simp only [Act.put, List.setIfInBounds_toArray, List.set_cons_zero, List.set_cons_succ]) | (refine Flo.N.sx_pure (by exact rfl) (by exact rfl) (by exact rfl) ?_; intro K hK; go_big_quiet_op; go_big_quiet_on) | (refine Flo.N.sx_free (by exact rfl) (by exact rfl) (by exact rfl) (by exact rfl) ?_; intro K hK; go_big_quiet_op; go_big_quiet_on) | (apply Flo.N.sx_mk (by exact rfl) (by exact rfl); (focus (intro w; go_simp; first | done | exact rfl | exact ⟨rfl, rfl⟩)); intro b hn hfr; (try have hne := Flo.Fresh.ne hfr); simp only [Act.put, List.setIfInBounds_toArray, List.set_cons_zero, List.set_cons_succ]) | (apply Flo.N.sx_build _ (by exact rfl) (by exact rfl); (focus (intro w; go_simp; first | done | exact rfl | exact ⟨rfl, rfl⟩)); intro b hn hfr; (try have hne := Flo.Fresh.ne hfr); simp only [Act.put, List.setIfInBounds_toArray, List.set_cons_zero, List.set_cons_succ]) | (apply Flo.N.sx_give (by exact rfl) (by exact rfl); (focus (intro w hbW hh; apply Flo.gives_of; intro G hG; go_simp; apply hG _ _ (by kernel_rfl); clear hG G; first | (with_reducible exact O1 _) | (with_reducible exact D1 _))); simp only [Act.put, List.setIfInBounds_toArray, List.set_cons_zero, List.set_cons_succ]) | (refine Flo.N.sx_last (by exact rfl) (by exact rfl) ?_; intro w2 hJ K hK; first | (have hJ : Flo.Holds _ _ _ _ := hJ; (try have HJB := Lib.hid hJ.below); (first | (have hu1 := Flo.Holds.uncover (by exact rfl) hJ; have hu2 := Flo.Holds.uncover (by exact rfl) hu1.2; replace M := Flo.N.got2 (w0 := w0) (by repeat' (first | (with_reducible exact M) | (with_reducible apply Mem.drew) | (with_reducible apply Mem.alloc))) hJ.below hu2.1 hu1.1 hne; clear hu1 hu2) | (have hu1 := Flo.Holds.uncover (by exact rfl) hJ; replace M := Mem.got (w0 := w0) (x := .c _ _ _) (by repeat' (first | (with_reducible exact M) | (with_reducible apply Mem.drew) | (with_reducible apply Mem.alloc))) hJ.below hu1.1; clear hu1) | (replace M := Mem.call (w0 := w0) (by repeat' (first | (with_reducible exact M) | (with_reducible apply Mem.drew) | (with_reducible apply Mem.alloc))) hJ.below) | (have hB2 := hJ.below)); clear hJ; (try clear F); (try simp only [World.size_alloc] at M); (try simp only [heap_drew] at M); (try (have F := Mem.facts M; simp only [MemFacts] at F; (try simp only [ApartFacts] at F))); go_wp2_with (fail); (try refine ⟨rfl, ?_⟩)) | (have hJ : w2 = _ := hJ; subst hJ; go_wp2_with (fail); (try refine ⟨rfl, ?_⟩))))); (first | (refine Flo.N.sx_end ?_) | (refine Flo.N.sx_nil ?_; intro w2 hJ; (try have HJB := Lib.hid hJ.below); (first | (have hu1 := Flo.Holds.uncover (by exact rfl) hJ; have hu2 := Flo.Holds.uncover (by exact rfl) hu1.2; replace M := Flo.N.got2 (w0 := w0) (by repeat' (first | (with_reducible exact M) | (with_reducible apply Mem.drew) | (with_reducible apply Mem.alloc))) hJ.below hu2.1 hu1.1 hne; clear hu1 hu2) | (have hu1 := Flo.Holds.uncover (by exact rfl) hJ; replace M := Mem.got (w0 := w0) (x := .c _ _ _) (by repeat' (first | (with_reducible exact M) | (with_reducible apply Mem.drew) | (with_reducible apply Mem.alloc))) hJ.below hu1.1; clear hu1) | (replace M := Mem.call (w0 := w0) (by repeat' (first | (with_reducible exact M) | (with_reducible apply Mem.drew) | (with_reducible apply Mem.alloc))) hJ.below) | (have hB2 := hJ.below)); clear hJ; (try clear F); (try simp only [World.size_alloc] at M); (try simp only [heap_drew] at M); (try (have F := Mem.facts M; simp only [MemFacts] at F; (try simp only [ApartFacts] at F))))))
  replace M := (M.put4 1 rfl (.int .u64 (l0 q0)) (.int .u64 (l1 q0)) (.int .u64 (l2 q0)) (.int .u64 (l3 q0))).put4 0 rfl (.int .u64 (l0 r0)) (.int .u64 (l1 r0)) (.int .u64 (l2 r0)) (.int .u64 (l3 r0))
  simp only [List.set_cons_zero, List.set_cons_succ] at M
  ((try clear F); obtain ⟨wg, eg, M⟩ : ∃ wg, wg = _ ∧ Mem w0 wg _ := ⟨_, rfl, M⟩; (try unfold Flo.put4 at eg); rw [← eg]; clear eg; have F := Mem.facts M; simp only [MemFacts] at F; (try simp only [ApartFacts] at F))
  go_wp2_with (first | (go_at_call 65; (with_reducible refine (M1 _).mono ?_); rintro o w1 ⟨rfl, hb⟩; replace M := Mem.call (w0 := w0) (by repeat' (first | (with_reducible exact M) | (with_reducible apply Mem.drew) | (with_reducible apply Mem.alloc))) hb; clear hb; (try clear F); (try simp only [World.size_alloc] at M); (try simp only [heap_drew] at M); have F := Mem.facts M; simp only [MemFacts] at F; (try simp only [ApartFacts] at F)) | (go_at_call 65; (with_reducible refine (M2 _).mono ?_); rintro o w1 ⟨rfl, hb⟩; replace M := M.put4 1 rfl (.int .u64 (l0 w)) (.int .u64 (l1 w)) (.int .u64 (l2 w)) (.int .u64 (l3 w)); simp only [List.set_cons_zero, List.set_cons_succ] at M; replace M := Mem.call (w0 := w0) (by repeat' (first | (with_reducible exact M) | (with_reducible apply Mem.drew) | (with_reducible apply Mem.alloc))) hb; clear hb; (try clear F); (try simp only [World.size_alloc] at M); (try simp only [heap_drew] at M); have F := Mem.facts M; simp only [MemFacts] at F; (try simp only [ApartFacts] at F)))
  replace M := M.put4 0 rfl (.int .u64 (l0 r)) (.int .u64 (l1 r)) (.int .u64 (l2 r)) (.int .u64 (l3 r))
  simp only [List.set_cons_zero] at M
  ((try clear F); obtain ⟨wg, eg, M⟩ : ∃ wg, wg = _ ∧ Mem w0 wg _ := ⟨_, rfl, M⟩; (try unfold Flo.put4 at eg); rw [← eg]; clear eg; have F := Mem.facts M; simp only [MemFacts] at F; (try simp only [ApartFacts] at F))
  ((try simp only [List.append_eq, List.cons_append, List.nil_append]); refine Flo.N.wp_made (by kernel_rfl) (by decide +kernel) ?_; (repeat (first | (refine Flo.N.sx_skip (by exact rfl) (by exact rfl) ?_; simp only [Act.put, List.setIfInBounds_toArray, List.set_cons_zero, List.set_cons_succ]) | (refine Flo.N.sx_pure (by exact rfl) (by exact rfl) (by exact rfl) ?_; intro K hK; go_big_quiet_op; go_big_quiet_on) | (refine Flo.N.sx_free (by exact rfl) (by exact rfl) (by exact rfl) (by exact rfl) ?_; intro K hK; go_big_quiet_op; go_big_quiet_on) | (apply Flo.N.sx_mk (by exact rfl) (by exact rfl); (focus (intro w; go_simp; first | done | exact rfl | exact ⟨rfl, rfl⟩)); intro b hn hfr; (try have hne := Flo.Fresh.ne hfr); simp only [Act.put, List.setIfInBounds_toArray, List.set_cons_zero, List.set_cons_succ]) | (apply Flo.N.sx_build _ (by exact rfl) (by exact rfl); (focus (intro w; go_simp; first | done | exact rfl | exact ⟨rfl, rfl⟩)); intro b hn hfr; (try have hne := Flo.Fresh.ne hfr); simp only [Act.put, List.setIfInBounds_toArray, List.set_cons_zero, List.set_cons_succ]) | (apply Flo.N.sx_give (by exact rfl) (by exact rfl); (focus (intro w hbW hh; apply Flo.gives_of; intro G hG; go_simp; apply hG _ _ (by kernel_rfl); clear hG G; first | (with_reducible exact O1 _) | (with_reducible exact D2 _))); simp only [Act.put, List.setIfInBounds_toArray, List.set_cons_zero, List.set_cons_succ]) | (refine Flo.N.sx_last (by exact rfl) (by exact rfl) ?_; intro w2 hJ K hK; first | (have hJ : Flo.Holds _ _ _ _ := hJ; (try have HJB := Lib.hid hJ.below); (first | (have hu1 := Flo.Holds.uncover (by exact rfl) hJ; have hu2 := Flo.Holds.uncover (by exact rfl) hu1.2; replace M := Flo.N.got2 (w0 := w0) (by repeat' (first | (with_reducible exact M) | (with_reducible apply Mem.drew) | (with_reducible apply Mem.alloc))) hJ.below hu2.1 hu1.1 hne; clear hu1 hu2) | (have hu1 := Flo.Holds.uncover (by exact rfl) hJ; replace M := Mem.got (w0 := w0) (x := .c _ _ _) (by repeat' (first | (with_reducible exact M) | (with_reducible apply Mem.drew) | (with_reducible apply Mem.alloc))) hJ.below hu1.1; clear hu1) | (replace M := Mem.call (w0 := w0) (by repeat' (first | (with_reducible exact M) | (with_reducible apply Mem.drew) | (with_reducible apply Mem.alloc))) hJ.below) | (have hB2 := hJ.below)); clear hJ; (try clear F); (try simp only [World.size_alloc] at M); (try simp only [heap_drew] at M); (try (have F := Mem.facts M; simp only [MemFacts] at F; (try simp only [ApartFacts] at F))); go_wp2_with (fail); (try refine ⟨rfl, ?_⟩)) | (have hJ : w2 = _ := hJ; subst hJ; go_wp2_with (fail); (try refine ⟨rfl, ?_⟩))))); (first | (refine Flo.N.sx_end ?_) | (refine Flo.N.sx_nil ?_; intro w2 hJ; (try have HJB := Lib.hid hJ.below); (first | (have hu1 := Flo.Holds.uncover (by exact rfl) hJ; have hu2 := Flo.Holds.uncover (by exact rfl) hu1.2; replace M := Flo.N.got2 (w0 := w0) (by repeat' (first | (with_reducible exact M) | (with_reducible apply Mem.drew) | (with_reducible apply Mem.alloc))) hJ.below hu2.1 hu1.1 hne; clear hu1 hu2) | (have hu1 := Flo.Holds.uncover (by exact rfl) hJ; replace M := Mem.got (w0 := w0) (x := .c _ _ _) (by repeat' (first | (with_reducible exact M) | (with_reducible apply Mem.drew) | (with_reducible apply Mem.alloc))) hJ.below hu1.1; clear hu1) | (replace M := Mem.call (w0 := w0) (by repeat' (first | (with_reducible exact M) | (with_reducible apply Mem.drew) | (with_reducible apply Mem.alloc))) hJ.below) | (have hB2 := hJ.below)); clear hJ; (try clear F); (try simp only [World.size_alloc] at M); (try simp only [heap_drew] at M); (try (have F := Mem.facts M; simp only [MemFacts] at F; (try simp only [ApartFacts] at F))))))
  replace M := (M.put4 1 rfl (.int .u64 (l0 p)) (.int .u64 (l1 p)) (.int .u64 (l2 p)) (.int .u64 (l3 p))).put4 0 rfl (.int .u64 (l0 z)) (.int .u64 (l1 z)) (.int .u64 (l2 z)) (.int .u64 (l3 z))
  simp only [List.set_cons_zero, List.set_cons_succ] at M
  ((try clear F); obtain ⟨wg, eg, M⟩ : ∃ wg, wg = _ ∧ Mem w0 wg _ := ⟨_, rfl, M⟩; (try unfold Flo.put4 at eg); rw [← eg]; clear eg; have F := Mem.facts M; simp only [MemFacts] at F; (try simp only [ApartFacts] at F))
  rcases lost with _ | _
  all_goals
    go_wp2_with (first | (go_at_call 35; (with_reducible refine (A1 _).mono ?_); rintro o w1 ⟨rfl, hb⟩; replace M := Mem.call (w0 := w0) (by repeat' (first | (with_reducible exact M) | (with_reducible apply Mem.drew) | (with_reducible apply Mem.alloc))) hb; clear hb; (try clear F); (try simp only [World.size_alloc] at M); (try simp only [heap_drew] at M); have F := Mem.facts M; simp only [MemFacts] at F; (try simp only [ApartFacts] at F)))
    have M3 := (M.put4 4 rfl (.int .u64 (l0 s)) (.int .u64 (l1 s)) (.int .u64 (l2 s)) (.int .u64 (l3 s))).alloc (cs := #[.int .u64 (l0 s), .int .u64 (l1 s), .int .u64 (l2 s), .int .u64 (l3 s)]) (t := 32)
    (have hc := fun j => cell_of_row _ _ j _ _ _ (M3.at 5 rfl); refine bodyPost_ret (v := .tuple #[uV s, .bool (_ || over)]) (by simp [results, Try.results138, go_sem, hc]) rfl ⟨rfl, M3.below⟩)
/-- A number times one, divided by another; whether that is too great. -/
def ratioN (t n d : Nat) : Nat × Bool := ((t / d * n % top + t % d * n % top / d) % top, decide (top ≤ t / d * n) || decide (top ≤ t / d * n % top + t % d * n % top / d))
theorem ratio_c (t n d : Nat) (ht : t < top) (hn : n < 18446744073709551616) (hd : d < 18446744073709551616) (h0 : d ≠ 0) : Gives 138 #[uV t, .int .u64 (n : Int), .int .u64 (d : Int)] (.tuple #[uV (ratioN t n d).1, .bool (ratioN t n d).2]) := fun w => by
  have hT := top_24
  have hb := top_big
  have D1 := div_c t d ht (by omega)
  rw [if_neg h0, if_neg h0] at D1
  have D2 := div_c (t % d * n % top) d (Nat.mod_lt _ (by omega)) (by omega)
  rw [if_neg h0, if_neg h0] at D2
  exact ratio_main t n d _ _ _ _ _ _ _ _ _ _ _ _ w (of_lit d hd) D1 (mul_c (t / d) n (Nat.lt_of_le_of_lt (Nat.div_le_self _ _) ht) hn) (mul_c (t % d) n (Nat.lt_of_le_of_lt (Nat.mod_le _ _) ht) hn) D2
    (add_c _ _ (Nat.mod_lt _ (by omega)) (Nat.lt_of_le_of_lt (Nat.div_le_self _ _) (Nat.mod_lt _ (by omega))))
set_option maxRecDepth 100000 in
set_option maxHeartbeats 2000000 in
theorem scale_bad (a c n d t l : Nat) (ok : Bool) (w0 : World) (B1 : Gives 131 #[.int .u32 (a : Int), .int .u32 (c : Int)] (.tuple #[uV t, uV l, .bool ok])) (h : ok = false ∨ (ok = true ∧ n = 0) ∨ (ok = true ∧ n ≠ 0 ∧ d = 0)) :
    Calls Try.prog 132 #[.int .u32 (a : Int), .int .u64 (n : Int), .int .u64 (d : Int), .int .u32 (c : Int)] w0 fun e w' => e = .returned (.int .u32 (c : Int)) ∧ Below w0.heap.size w0 w' := by
  rcases h with rfl | ⟨rfl, rfl⟩ | ⟨rfl, hn, rfl⟩
  · have M := Mem.nil w0; have F := Mem.facts M; simp only [MemFacts] at F; (try simp only [ApartFacts] at F)
    go_enter Try.func132, Try.ntmps132
    go_wp2_with (first | (go_at_call 131; (with_reducible refine (B1 _).mono ?_); rintro o w1 ⟨rfl, hb⟩; replace M := Mem.call (w0 := w0) (by repeat' (first | (with_reducible exact M) | (with_reducible apply Mem.drew) | (with_reducible apply Mem.alloc))) hb; clear hb; (try clear F); (try simp only [World.size_alloc] at M); (try simp only [heap_drew] at M); have F := Mem.facts M; simp only [MemFacts] at F; (try simp only [ApartFacts] at F)))
    have M2 := (M.alloc (cs := #[.int .u64 (l0 t), .int .u64 (l1 t), .int .u64 (l2 t), .int .u64 (l3 t)]) (t := 32)).alloc (cs := #[.int .u64 (l0 l), .int .u64 (l1 l), .int .u64 (l2 l), .int .u64 (l3 l)]) (t := 32)
    refine bodyPost_ret (v := .int .u32 (c : Int)) (by simp [results, Try.results132, go_sem]) rfl ⟨rfl, M2.below⟩
  · have M := Mem.nil w0; have F := Mem.facts M; simp only [MemFacts] at F; (try simp only [ApartFacts] at F)
    go_enter Try.func132, Try.ntmps132
    rw [show ((0 : Nat) : Int) = 0 from rfl]
    go_wp2_with (first | (go_at_call 131; (with_reducible refine (B1 _).mono ?_); rintro o w1 ⟨rfl, hb⟩; replace M := Mem.call (w0 := w0) (by repeat' (first | (with_reducible exact M) | (with_reducible apply Mem.drew) | (with_reducible apply Mem.alloc))) hb; clear hb; (try clear F); (try simp only [World.size_alloc] at M); (try simp only [heap_drew] at M); have F := Mem.facts M; simp only [MemFacts] at F; (try simp only [ApartFacts] at F)))
    have M2 := (M.alloc (cs := #[.int .u64 (l0 t), .int .u64 (l1 t), .int .u64 (l2 t), .int .u64 (l3 t)]) (t := 32)).alloc (cs := #[.int .u64 (l0 l), .int .u64 (l1 l), .int .u64 (l2 l), .int .u64 (l3 l)]) (t := 32)
    refine bodyPost_ret (v := .int .u32 (c : Int)) (by simp [results, Try.results132, go_sem]) rfl ⟨rfl, M2.below⟩
  · have h1 : ((n : Int) == 0) = false := by rw [beq_eq_false_iff_ne]; omega
    have M := Mem.nil w0; have F := Mem.facts M; simp only [MemFacts] at F; (try simp only [ApartFacts] at F)
    go_enter Try.func132, Try.ntmps132
    rw [show ((0 : Nat) : Int) = 0 from rfl]
    go_wp2_with (first | (go_at_call 131; (with_reducible refine (B1 _).mono ?_); rintro o w1 ⟨rfl, hb⟩; replace M := Mem.call (w0 := w0) (by repeat' (first | (with_reducible exact M) | (with_reducible apply Mem.drew) | (with_reducible apply Mem.alloc))) hb; clear hb; (try clear F); (try simp only [World.size_alloc] at M); (try simp only [heap_drew] at M); have F := Mem.facts M; simp only [MemFacts] at F; (try simp only [ApartFacts] at F)))
    have M2 := (M.alloc (cs := #[.int .u64 (l0 t), .int .u64 (l1 t), .int .u64 (l2 t), .int .u64 (l3 t)]) (t := 32)).alloc (cs := #[.int .u64 (l0 l), .int .u64 (l1 l), .int .u64 (l2 l), .int .u64 (l3 l)]) (t := 32)
    refine bodyPost_ret (v := .int .u32 (c : Int)) (by simp [results, Try.results132, go_sem]) rfl ⟨rfl, M2.below⟩
set_option maxRecDepth 100000 in
set_option maxHeartbeats 4000000 in
theorem scale_main (a c n d t l q x : Nat) (lost : Bool) (c1 r : Int) (w0 : World) (hn : n ≠ 0) (hd : d ≠ 0) (B1 : Gives 131 #[.int .u32 (a : Int), .int .u32 (c : Int)] (.tuple #[uV t, uV l, .bool true]))
    (R1 : Gives 138 #[uV t, .int .u64 (n : Int), .int .u64 (d : Int)] (.tuple #[uV q, .bool lost])) (C1 : Gives 38 #[uV q, uV l] (.int .i64 c1)) (K1 : Gives 88 #[uV x] (.int .u32 r))
    (h : (lost = true ∧ x = l) ∨ (lost = false ∧ isZ q = true ∧ x = l) ∨ (lost = false ∧ isZ q = false ∧ decide (0 < c1) = true ∧ x = l) ∨ (lost = false ∧ isZ q = false ∧ decide (0 < c1) = false ∧ x = q)) :
    Calls Try.prog 132 #[.int .u32 (a : Int), .int .u64 (n : Int), .int .u64 (d : Int), .int .u32 (c : Int)] w0 fun e w' => e = .returned (.int .u32 r) ∧ Below w0.heap.size w0 w' := by
  have h1 : ((n : Int) == 0) = false := by rw [beq_eq_false_iff_ne]; omega
  have h2 : ((d : Int) == 0) = false := by rw [beq_eq_false_iff_ne]; omega
  unfold isZ at h
  rcases h with ⟨rfl, rfl⟩ | ⟨rfl, hz, rfl⟩ | ⟨rfl, hz, h3, rfl⟩ | ⟨rfl, hz, h3, rfl⟩
  all_goals
    have M := Mem.nil w0; have F := Mem.facts M; simp only [MemFacts] at F; (try simp only [ApartFacts] at F)
    go_enter Try.func132, Try.ntmps132
    go_wp2_with (first | (go_at_call 131; (with_reducible refine (B1 _).mono ?_); rintro o w1 ⟨rfl, hb⟩; replace M := Mem.call (w0 := w0) (by repeat' (first | (with_reducible exact M) | (with_reducible apply Mem.drew) | (with_reducible apply Mem.alloc))) hb; clear hb; (try clear F); (try simp only [World.size_alloc] at M); (try simp only [heap_drew] at M); have F := Mem.facts M; simp only [MemFacts] at F; (try simp only [ApartFacts] at F)) | (go_at_call 138; (with_reducible refine (R1 _).mono ?_); rintro o w1 ⟨rfl, hb⟩; replace M := Mem.call (w0 := w0) (by repeat' (first | (with_reducible exact M) | (with_reducible apply Mem.drew) | (with_reducible apply Mem.alloc))) hb; clear hb; (try clear F); (try simp only [World.size_alloc] at M); (try simp only [heap_drew] at M); have F := Mem.facts M; simp only [MemFacts] at F; (try simp only [ApartFacts] at F)) | (go_at_call 38; (with_reducible refine (C1 _).mono ?_); rintro o w1 ⟨rfl, hb⟩; replace M := Mem.call (w0 := w0) (by repeat' (first | (with_reducible exact M) | (with_reducible apply Mem.drew) | (with_reducible apply Mem.alloc))) hb; clear hb; (try clear F); (try simp only [World.size_alloc] at M); (try simp only [heap_drew] at M); have F := Mem.facts M; simp only [MemFacts] at F; (try simp only [ApartFacts] at F)) | (go_at_call 88; (with_reducible refine (K1 _).mono ?_); rintro o w1 ⟨rfl, hb⟩; (first | (replace M := Mem.call (w0 := w0) (by repeat' (first | (with_reducible exact M) | (with_reducible apply Mem.drew) | (with_reducible apply Mem.alloc))) hb; clear hb; (try clear F); (try simp only [World.size_alloc] at M); (try simp only [heap_drew] at M); have F := Mem.facts M; simp only [MemFacts] at F; (try simp only [ApartFacts] at F)) | (replace M := M.put4 0 rfl (.int .u64 (l0 x)) (.int .u64 (l1 x)) (.int .u64 (l2 x)) (.int .u64 (l3 x)); simp only [List.set_cons_zero] at M; replace M := Mem.call (w0 := w0) (by repeat' (first | (with_reducible exact M) | (with_reducible apply Mem.drew) | (with_reducible apply Mem.alloc))) hb; clear hb; (try clear F); (try simp only [World.size_alloc] at M); (try simp only [heap_drew] at M); have F := Mem.facts M; simp only [MemFacts] at F; (try simp only [ApartFacts] at F)) | (replace M := (M.alloc (cs := #[.int .u64 (l0 q), .int .u64 (l1 q), .int .u64 (l2 q), .int .u64 (l3 q)]) (t := 32)).put4 0 rfl (.int .u64 (l0 x)) (.int .u64 (l1 x)) (.int .u64 (l2 x)) (.int .u64 (l3 x)); simp only [List.set_cons_zero] at M; replace M := Mem.call (w0 := w0) (by repeat' (first | (with_reducible exact M) | (with_reducible apply Mem.drew) | (with_reducible apply Mem.alloc))) hb; clear hb; (try clear F); (try simp only [World.size_alloc] at M); (try simp only [heap_drew] at M); have F := Mem.facts M; simp only [MemFacts] at F; (try simp only [ApartFacts] at F)))))
    refine bodyPost_ret (v := .int .u32 r) (by simp [results, Try.results132, go_sem]) rfl ⟨rfl, M.below⟩
/-- The target, scaled. -/
def scaleQ (t l n d : Nat) : Nat := if (ratioN t n d).2 = true ∨ (ratioN t n d).1 = 0 ∨ l < (ratioN t n d).1 then l else (ratioN t n d).1
def scaleN (a n d c : Nat) : Nat := if okN a c = false ∨ n = 0 ∨ d = 0 then c else shrinkN (scaleQ (rawT a) (rawT c) n d)
theorem ratio_lt (t n d : Nat) : (ratioN t n d).1 < top := Nat.mod_lt _ (by have := top_24; omega)
theorem rawT_ltB {b : Nat} (h : badT b = false) : rawT b < top := by have := rawT_odd h; omega
theorem scale_c (a n d c : Nat) (ha : a < 4294967296) (hc : c < 4294967296) (hn : n < 18446744073709551616) (hd : d < 18446744073709551616) : Gives 132 #[.int .u32 (a : Int), .int .u64 (n : Int), .int .u64 (d : Int), .int .u32 (c : Int)] (.int .u32 (scaleN a n d c : Int)) := fun w => by
  have B1 := both_c a c ha hc
  unfold scaleN
  by_cases h : okN a c = false ∨ n = 0 ∨ d = 0
  · rw [if_pos h]
    refine scale_bad a c n d _ _ _ w B1 ?_
    cases hok : okN a c with
    | false => exact .inl rfl
    | true =>
      rcases h with h | h | h
      · rw [hok] at h; cases h
      · exact .inr (.inl ⟨rfl, h⟩)
      · by_cases h0 : n = 0
        · exact .inr (.inl ⟨rfl, h0⟩)
        · exact .inr (.inr ⟨rfl, h0, h⟩)
  · rw [if_neg h]
    have hok : okN a c = true := by cases hok : okN a c with | true => rfl | false => exact absurd (.inl hok) h
    have hn0 : n ≠ 0 := fun e => h (.inr (.inl e))
    have hd0 : d ≠ 0 := fun e => h (.inr (.inr e))
    have h1 : badT a = false := by unfold okN at hok; cases h : badT a with | false => rfl | true => rw [h] at hok; cases hok
    have h2 : badT c = false := by unfold okN at hok; rw [h1] at hok; cases h : badT c with | false => rfl | true => rw [h] at hok; cases hok
    rw [hok, expandN_of h1, expandN_of h2] at B1
    have hq := ratio_lt (rawT a) n d
    have hx : scaleQ (rawT a) (rawT c) n d < top := by unfold scaleQ; split; exact rawT_ltB h2; exact hq
    refine scale_main a c n d _ _ _ (scaleQ (rawT a) (rawT c) n d) _ _ _ w hn0 hd0 B1 (ratio_c (rawT a) n d (rawT_ltB h1) hn hd hd0) (cmp_c _ _ hq (rawT_ltB h2)) (shrink_c _ hx) ?_
    rw [cmp_gt, isZ_eq hq]
    unfold scaleQ
    cases hl : (ratioN (rawT a) n d).2 with
    | true => exact .inl ⟨rfl, if_pos (.inl rfl)⟩
    | false =>
      by_cases hz : (ratioN (rawT a) n d).1 = 0
      · exact .inr (.inl ⟨rfl, decide_eq_true hz, if_pos (.inr (.inl hz))⟩)
      · by_cases hg : rawT c < (ratioN (rawT a) n d).1
        · exact .inr (.inr (.inl ⟨rfl, decide_eq_false hz, decide_eq_true hg, if_pos (.inr (.inr hg))⟩))
        · refine .inr (.inr (.inr ⟨rfl, decide_eq_false hz, decide_eq_false hg, if_neg ?_⟩))
          rintro (h | h | h)
          · cases h
          · exact hz h
          · exact hg h
end Go.Proofs.Ytkgjgdeaclefiaa
