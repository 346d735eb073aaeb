/-
  The law U256Shifts.
-/
import Derived.Test.YtkgjgdeaclefiaaOrder
namespace Go.Proofs.Ytkgjgdeaclefiaa
open Go Go.Proofs Go.RowKit Go.Flo

theorem i64_and255 (n : Int) : bits .and .i64 n 255 = n % 256 := by
  have h255 : (BitVec.ofInt 64 255).toNat = 2 ^ 8 - 1 := by decide
  have key : (BitVec.ofInt 64 n &&& BitVec.ofInt 64 255).toNat = (n % ((2 ^ 64 : Nat) : Int)).toNat % 2 ^ 8 := by
    rw [BitVec.toNat_and, BitVec.toNat_ofInt, h255, Nat.and_two_pow_sub_one_eq_mod]
  show IntKind.i64.wrap ((BitVec.ofInt 64 n &&& BitVec.ofInt 64 255).toNat : Nat) = n % 256
  rw [key, IntKind.wrap_i64]
  omega

/-- Is it nought? as '==' asks. -/
abbrev isZ (m : Nat) : Bool := l0 m == 0 && (l1 m == 0 && (l2 m == 0 && l3 m == 0))
theorem isZ_eq {m : Nat} (h : m < top) : isZ m = decide (m = 0) := by
  have a := is4_of h
  have b := is4_of (n := 0) (Nat.lt_of_le_of_lt (Nat.zero_le _) h)
  obtain ⟨⟨_, _⟩, ⟨_, _⟩, ⟨_, _⟩, ⟨_, _⟩, e⟩ := a
  rw [Bool.eq_iff_iff]
  simp only [Bool.and_eq_true, beq_iff_eq, decide_eq_true_eq]
  constructor
  · rintro ⟨h0, h1, h2, h3⟩; rw [h0, h1, h2, h3] at e; omega
  · intro hm; subst hm; omega

set_option maxRecDepth 100000 in
set_option maxHeartbeats 4000000 in
theorem shifts_main (m s v t q r : Nat) (n p ln : Int) (o g y : Bool)
    (hp : bits .and .i64 n 255 = p) (p0 : 0 ≤ p) (p1 : p < 256) (ln0 : 0 ≤ ln) (ln1 : ln ≤ 256)
    (A1 : Gives 35 #[uV m, uV m] (.tuple #[uV s, .bool o])) (S1 : Gives 74 #[uV m, .int .i64 1] (.tuple #[uV s, .bool o]))
    (S2 : Gives 74 #[uV m, .int .i64 p] (.tuple #[uV v, .bool g])) (O1 : Gives 72 #[.int .u64 1] (uV 1)) (S3 : Gives 74 #[uV 1, .int .i64 p] (.tuple #[uV t, .bool y]))
    (D1 : Gives 75 #[uV m, uV t] (.tuple #[uV q, uV r, .bool true])) (R2 : Gives 76 #[uV m, .int .i64 p] (uV q)) (L1 : Gives 69 #[uV m] (.int .i64 ln))
    (h : (g = true ∧ decide (256 < ln + p) = true ∧ isZ m = false ∧ (ln == 0) = false) ∨ (g = false ∧ Gives 76 #[uV v, .int .i64 p] (uV m) ∧ decide (256 < ln + p) = false ∧ ((isZ m = false ∧ (ln == 0) = false) ∨ (isZ m = true ∧ (ln == 0) = true)))) (w0 : World) :
    Calls Try.prog 11 #[uV m, .int .i64 n] w0 fun e w' => e = .returned (.bool true) ∧ Below w0.heap.size w0 w' := by
  unfold isZ at h
  have L := Locs.nil w0; have B := Below.refl w0.heap.size w0; have Bz := B.size; have F := Locs.facts L; simp only [LocFacts] at F
  go_enter Try.func11, Try.ntmps11
  go_wp2_with (first | (go_at_call 33; (with_reducible refine (awake1 _).mono ?_); rintro e w1 ⟨rfl, hb⟩; replace L := Locs.below (by (first | (with_reducible exact L) | (with_reducible exact Locs.push L) | (with_reducible exact Locs.push (Locs.push L)) | (with_reducible exact Locs.push (Locs.push (Locs.push L))) | (with_reducible exact Locs.push (Locs.push (Locs.push (Locs.push L)))) | (with_reducible exact Locs.drew L) | (with_reducible exact Locs.drew (Locs.push L)) | (with_reducible exact Locs.push (Locs.drew L)))) hb; (replace B := Flo.below_step (w := w0) (by repeat' (first | (with_reducible exact Below.refl _ _) | (with_reducible assumption) | (with_reducible refine Below.drew ?_) | (with_reducible refine Below.alloc ?_ ?_ _) | (with_reducible refine Below.setCell ?_ ?_ _) | (with_reducible refine Flo.below_step ?_ (by assumption)) | (simp; done) | (simp; omega))) hb); clear hb; (try clear F); (try clear Bz); (try simp only [World.size_alloc] at L); (try simp only [heap_drew] at L); have Bz := B.size; have F := Locs.facts L; simp only [LocFacts] at F) | (go_at_call 34; (with_reducible refine ((ours1_c _) _).mono ?_); rintro e w1 ⟨rfl, hb⟩; replace L := Locs.below (by (first | (with_reducible exact L) | (with_reducible exact Locs.push L) | (with_reducible exact Locs.push (Locs.push L)) | (with_reducible exact Locs.push (Locs.push (Locs.push L))) | (with_reducible exact Locs.push (Locs.push (Locs.push (Locs.push L)))) | (with_reducible exact Locs.drew L) | (with_reducible exact Locs.drew (Locs.push L)) | (with_reducible exact Locs.push (Locs.drew L)))) hb; (replace B := Flo.below_step (w := w0) (by repeat' (first | (with_reducible exact Below.refl _ _) | (with_reducible assumption) | (with_reducible refine Below.drew ?_) | (with_reducible refine Below.alloc ?_ ?_ _) | (with_reducible refine Below.setCell ?_ ?_ _) | (with_reducible refine Flo.below_step ?_ (by assumption)) | (simp; done) | (simp; omega))) hb); clear hb; (try clear F); (try clear Bz); (try simp only [World.size_alloc] at L); (try simp only [heap_drew] at L); have Bz := B.size; have F := Locs.facts L; simp only [LocFacts] at F) | (go_at_call 35; (with_reducible refine (A1 _).mono ?_); rintro e w1 ⟨rfl, hb⟩; replace L := Locs.below (by (first | (with_reducible exact L) | (with_reducible exact Locs.push L) | (with_reducible exact Locs.push (Locs.push L)) | (with_reducible exact Locs.push (Locs.push (Locs.push L))) | (with_reducible exact Locs.push (Locs.push (Locs.push (Locs.push L)))) | (with_reducible exact Locs.drew L) | (with_reducible exact Locs.drew (Locs.push L)) | (with_reducible exact Locs.push (Locs.drew L)))) hb; (replace B := Flo.below_step (w := w0) (by repeat' (first | (with_reducible exact Below.refl _ _) | (with_reducible assumption) | (with_reducible refine Below.drew ?_) | (with_reducible refine Below.alloc ?_ ?_ _) | (with_reducible refine Below.setCell ?_ ?_ _) | (with_reducible refine Flo.below_step ?_ (by assumption)) | (simp; done) | (simp; omega))) hb); clear hb; (try clear F); (try clear Bz); (try simp only [World.size_alloc] at L); (try simp only [heap_drew] at L); have Bz := B.size; have F := Locs.facts L; simp only [LocFacts] at F) | (go_at_call 74; (with_reducible refine (S1 _).mono ?_); rintro e w1 ⟨rfl, hb⟩; replace L := Locs.below (by (first | (with_reducible exact L) | (with_reducible exact Locs.push L) | (with_reducible exact Locs.push (Locs.push L)) | (with_reducible exact Locs.push (Locs.push (Locs.push L))) | (with_reducible exact Locs.push (Locs.push (Locs.push (Locs.push L)))) | (with_reducible exact Locs.drew L) | (with_reducible exact Locs.drew (Locs.push L)) | (with_reducible exact Locs.push (Locs.drew L)))) hb; (replace B := Flo.below_step (w := w0) (by repeat' (first | (with_reducible exact Below.refl _ _) | (with_reducible assumption) | (with_reducible refine Below.drew ?_) | (with_reducible refine Below.alloc ?_ ?_ _) | (with_reducible refine Below.setCell ?_ ?_ _) | (with_reducible refine Flo.below_step ?_ (by assumption)) | (simp; done) | (simp; omega))) hb); clear hb; (try clear F); (try clear Bz); (try simp only [World.size_alloc] at L); (try simp only [heap_drew] at L); have Bz := B.size; have F := Locs.facts L; simp only [LocFacts] at F) | (go_at_call 74; (with_reducible refine (S2 _).mono ?_); rintro e w1 ⟨rfl, hb⟩; replace L := Locs.below (by (first | (with_reducible exact L) | (with_reducible exact Locs.push L) | (with_reducible exact Locs.push (Locs.push L)) | (with_reducible exact Locs.push (Locs.push (Locs.push L))) | (with_reducible exact Locs.push (Locs.push (Locs.push (Locs.push L)))) | (with_reducible exact Locs.drew L) | (with_reducible exact Locs.drew (Locs.push L)) | (with_reducible exact Locs.push (Locs.drew L)))) hb; (replace B := Flo.below_step (w := w0) (by repeat' (first | (with_reducible exact Below.refl _ _) | (with_reducible assumption) | (with_reducible refine Below.drew ?_) | (with_reducible refine Below.alloc ?_ ?_ _) | (with_reducible refine Below.setCell ?_ ?_ _) | (with_reducible refine Flo.below_step ?_ (by assumption)) | (simp; done) | (simp; omega))) hb); clear hb; (try clear F); (try clear Bz); (try simp only [World.size_alloc] at L); (try simp only [heap_drew] at L); have Bz := B.size; have F := Locs.facts L; simp only [LocFacts] at F) | (go_at_call 74; (with_reducible refine (S3 _).mono ?_); rintro e w1 ⟨rfl, hb⟩; replace L := Locs.below (by (first | (with_reducible exact L) | (with_reducible exact Locs.push L) | (with_reducible exact Locs.push (Locs.push L)) | (with_reducible exact Locs.push (Locs.push (Locs.push L))) | (with_reducible exact Locs.push (Locs.push (Locs.push (Locs.push L)))) | (with_reducible exact Locs.drew L) | (with_reducible exact Locs.drew (Locs.push L)) | (with_reducible exact Locs.push (Locs.drew L)))) hb; (replace B := Flo.below_step (w := w0) (by repeat' (first | (with_reducible exact Below.refl _ _) | (with_reducible assumption) | (with_reducible refine Below.drew ?_) | (with_reducible refine Below.alloc ?_ ?_ _) | (with_reducible refine Below.setCell ?_ ?_ _) | (with_reducible refine Flo.below_step ?_ (by assumption)) | (simp; done) | (simp; omega))) hb); clear hb; (try clear F); (try clear Bz); (try simp only [World.size_alloc] at L); (try simp only [heap_drew] at L); have Bz := B.size; have F := Locs.facts L; simp only [LocFacts] at F) | (go_at_call 72; (with_reducible refine (O1 _).mono ?_); rintro e w1 ⟨rfl, hb⟩; replace L := Locs.below (by (first | (with_reducible exact L) | (with_reducible exact Locs.push L) | (with_reducible exact Locs.push (Locs.push L)) | (with_reducible exact Locs.push (Locs.push (Locs.push L))) | (with_reducible exact Locs.push (Locs.push (Locs.push (Locs.push L)))) | (with_reducible exact Locs.drew L) | (with_reducible exact Locs.drew (Locs.push L)) | (with_reducible exact Locs.push (Locs.drew L)))) hb; (replace B := Flo.below_step (w := w0) (by repeat' (first | (with_reducible exact Below.refl _ _) | (with_reducible assumption) | (with_reducible refine Below.drew ?_) | (with_reducible refine Below.alloc ?_ ?_ _) | (with_reducible refine Below.setCell ?_ ?_ _) | (with_reducible refine Flo.below_step ?_ (by assumption)) | (simp; done) | (simp; omega))) hb); clear hb; (try clear F); (try clear Bz); (try simp only [World.size_alloc] at L); (try simp only [heap_drew] at L); have Bz := B.size; have F := Locs.facts L; simp only [LocFacts] at F) | (go_at_call 75; (with_reducible refine (D1 _).mono ?_); rintro e w1 ⟨rfl, hb⟩; replace L := Locs.below (by (first | (with_reducible exact L) | (with_reducible exact Locs.push L) | (with_reducible exact Locs.push (Locs.push L)) | (with_reducible exact Locs.push (Locs.push (Locs.push L))) | (with_reducible exact Locs.push (Locs.push (Locs.push (Locs.push L)))) | (with_reducible exact Locs.drew L) | (with_reducible exact Locs.drew (Locs.push L)) | (with_reducible exact Locs.push (Locs.drew L)))) hb; (replace B := Flo.below_step (w := w0) (by repeat' (first | (with_reducible exact Below.refl _ _) | (with_reducible assumption) | (with_reducible refine Below.drew ?_) | (with_reducible refine Below.alloc ?_ ?_ _) | (with_reducible refine Below.setCell ?_ ?_ _) | (with_reducible refine Flo.below_step ?_ (by assumption)) | (simp; done) | (simp; omega))) hb); clear hb; (try clear F); (try clear Bz); (try simp only [World.size_alloc] at L); (try simp only [heap_drew] at L); have Bz := B.size; have F := Locs.facts L; simp only [LocFacts] at F))
  rcases h with ⟨rfl, h1, h2, h3⟩ | ⟨rfl, R1, h1, ⟨h2, h3⟩ | ⟨h2, h3⟩⟩
  · ((try simp only [List.append_eq, List.cons_append, List.nil_append]); refine Flo.wp_heldR (w0 := w0) (by (first | (with_reducible exact L) | (with_reducible exact Locs.push L) | (with_reducible exact Locs.push (Locs.push L)) | (with_reducible exact Locs.push (Locs.push (Locs.push L))) | (with_reducible exact Locs.push (Locs.push (Locs.push (Locs.push L)))) | (with_reducible exact Locs.drew L) | (with_reducible exact Locs.drew (Locs.push L)) | (with_reducible exact Locs.push (Locs.drew L)))) (by repeat' (first | (with_reducible exact Below.refl _ _) | (with_reducible assumption) | (with_reducible refine Below.drew ?_) | (with_reducible refine Below.alloc ?_ ?_ _) | (with_reducible refine Below.setCell ?_ ?_ _) | (with_reducible refine Flo.below_step ?_ (by assumption)) | (simp; done) | (simp; omega))) (by kernel_rfl) (by decide +kernel) ?_; clear L B Bz F; intro W w L X B; have Bz := B.size; have F := Locs.facts L; simp only [LocFacts] at F; repeat (first | (refine Flo.au_skip (by exact rfl) (by exact rfl) ?_; simp only [Act.put, List.setIfInBounds_toArray, List.set_cons_zero, List.set_cons_succ]) | (refine Flo.hx_free (by exact rfl) (by exact rfl) (by exact rfl) ?_; intro K hK; go_big_quiet_op; go_big_quiet_on) | (refine Flo.au_move (by exact rfl) (by exact rfl) ?_; intro K hK; go_wp2_with (first | (go_at_call 76; (with_reducible refine (R2 _).mono ?_); rintro e w1 ⟨rfl, hb⟩; replace X := Flo.InExt.below X (fun _ h => h) hb; (replace B := Flo.below_step B hb); clear hb) | (go_at_call 69; (with_reducible refine (L1 _).mono ?_); rintro e w1 ⟨rfl, hb⟩; replace X := Flo.InExt.below X (fun _ h => h) hb; (replace B := Flo.below_step B hb); clear hb)); (try refine ⟨X, ?_⟩)) | (refine Flo.hx_done (w0 := w0) L X B ?_; clear L B Bz F X; intro w L B; have Bz := B.size; have F := Locs.facts L; simp only [LocFacts] at F)))
    (go_wp2_with (fail); refine bodyPost_ret (v := .bool true) (by simp [results, Try.results11, go_sem]) rfl ⟨rfl, ?_⟩; repeat' (first | (with_reducible exact Below.refl _ _) | (with_reducible assumption) | (with_reducible refine Below.drew ?_) | (with_reducible refine Below.alloc ?_ ?_ _) | (with_reducible refine Below.setCell ?_ ?_ _) | (with_reducible refine Flo.below_step ?_ (by assumption)) | (simp; done) | (simp; omega)))
  · ((try simp only [List.append_eq, List.cons_append, List.nil_append]); refine Flo.wp_heldR (w0 := w0) (by (first | (with_reducible exact L) | (with_reducible exact Locs.push L) | (with_reducible exact Locs.push (Locs.push L)) | (with_reducible exact Locs.push (Locs.push (Locs.push L))) | (with_reducible exact Locs.push (Locs.push (Locs.push (Locs.push L)))) | (with_reducible exact Locs.drew L) | (with_reducible exact Locs.drew (Locs.push L)) | (with_reducible exact Locs.push (Locs.drew L)))) (by repeat' (first | (with_reducible exact Below.refl _ _) | (with_reducible assumption) | (with_reducible refine Below.drew ?_) | (with_reducible refine Below.alloc ?_ ?_ _) | (with_reducible refine Below.setCell ?_ ?_ _) | (with_reducible refine Flo.below_step ?_ (by assumption)) | (simp; done) | (simp; omega))) (by kernel_rfl) (by decide +kernel) ?_; clear L B Bz F; intro W w L X B; have Bz := B.size; have F := Locs.facts L; simp only [LocFacts] at F; repeat (first | (refine Flo.au_skip (by exact rfl) (by exact rfl) ?_; simp only [Act.put, List.setIfInBounds_toArray, List.set_cons_zero, List.set_cons_succ]) | (refine Flo.hx_free (by exact rfl) (by exact rfl) (by exact rfl) ?_; intro K hK; go_big_quiet_op; go_big_quiet_on) | (refine Flo.au_move (by exact rfl) (by exact rfl) ?_; intro K hK; go_wp2_with (first | (go_at_call 76; (with_reducible refine (R1 _).mono ?_); rintro e w1 ⟨rfl, hb⟩; replace X := Flo.InExt.below X (fun _ h => h) hb; (replace B := Flo.below_step B hb); clear hb) | (go_at_call 76; (with_reducible refine (R2 _).mono ?_); rintro e w1 ⟨rfl, hb⟩; replace X := Flo.InExt.below X (fun _ h => h) hb; (replace B := Flo.below_step B hb); clear hb) | (go_at_call 69; (with_reducible refine (L1 _).mono ?_); rintro e w1 ⟨rfl, hb⟩; replace X := Flo.InExt.below X (fun _ h => h) hb; (replace B := Flo.below_step B hb); clear hb)); (try refine ⟨X, ?_⟩)) | (refine Flo.hx_done (w0 := w0) L X B ?_; clear L B Bz F X; intro w L B; have Bz := B.size; have F := Locs.facts L; simp only [LocFacts] at F)))
    (go_wp2_with (fail); refine bodyPost_ret (v := .bool true) (by simp [results, Try.results11, go_sem]) rfl ⟨rfl, ?_⟩; repeat' (first | (with_reducible exact Below.refl _ _) | (with_reducible assumption) | (with_reducible refine Below.drew ?_) | (with_reducible refine Below.alloc ?_ ?_ _) | (with_reducible refine Below.setCell ?_ ?_ _) | (with_reducible refine Flo.below_step ?_ (by assumption)) | (simp; done) | (simp; omega)))
  · ((try simp only [List.append_eq, List.cons_append, List.nil_append]); refine Flo.wp_heldR (w0 := w0) (by (first | (with_reducible exact L) | (with_reducible exact Locs.push L) | (with_reducible exact Locs.push (Locs.push L)) | (with_reducible exact Locs.push (Locs.push (Locs.push L))) | (with_reducible exact Locs.push (Locs.push (Locs.push (Locs.push L)))) | (with_reducible exact Locs.drew L) | (with_reducible exact Locs.drew (Locs.push L)) | (with_reducible exact Locs.push (Locs.drew L)))) (by repeat' (first | (with_reducible exact Below.refl _ _) | (with_reducible assumption) | (with_reducible refine Below.drew ?_) | (with_reducible refine Below.alloc ?_ ?_ _) | (with_reducible refine Below.setCell ?_ ?_ _) | (with_reducible refine Flo.below_step ?_ (by assumption)) | (simp; done) | (simp; omega))) (by kernel_rfl) (by decide +kernel) ?_; clear L B Bz F; intro W w L X B; have Bz := B.size; have F := Locs.facts L; simp only [LocFacts] at F; repeat (first | (refine Flo.au_skip (by exact rfl) (by exact rfl) ?_; simp only [Act.put, List.setIfInBounds_toArray, List.set_cons_zero, List.set_cons_succ]) | (refine Flo.hx_free (by exact rfl) (by exact rfl) (by exact rfl) ?_; intro K hK; go_big_quiet_op; go_big_quiet_on) | (refine Flo.au_move (by exact rfl) (by exact rfl) ?_; intro K hK; go_wp2_with (first | (go_at_call 76; (with_reducible refine (R1 _).mono ?_); rintro e w1 ⟨rfl, hb⟩; replace X := Flo.InExt.below X (fun _ h => h) hb; (replace B := Flo.below_step B hb); clear hb) | (go_at_call 76; (with_reducible refine (R2 _).mono ?_); rintro e w1 ⟨rfl, hb⟩; replace X := Flo.InExt.below X (fun _ h => h) hb; (replace B := Flo.below_step B hb); clear hb) | (go_at_call 69; (with_reducible refine (L1 _).mono ?_); rintro e w1 ⟨rfl, hb⟩; replace X := Flo.InExt.below X (fun _ h => h) hb; (replace B := Flo.below_step B hb); clear hb)); (try refine ⟨X, ?_⟩)) | (refine Flo.hx_done (w0 := w0) L X B ?_; clear L B Bz F X; intro w L B; have Bz := B.size; have F := Locs.facts L; simp only [LocFacts] at F)))
    (go_wp2_with (fail); refine bodyPost_ret (v := .bool true) (by simp [results, Try.results11, go_sem]) rfl ⟨rfl, ?_⟩; repeat' (first | (with_reducible exact Below.refl _ _) | (with_reducible assumption) | (with_reducible refine Below.drew ?_) | (with_reducible refine Below.alloc ?_ ?_ _) | (with_reducible refine Below.setCell ?_ ?_ _) | (with_reducible refine Flo.below_step ?_ (by assumption)) | (simp; done) | (simp; omega)))

theorem lenN_zero : lenN 0 = 0 := by decide +kernel
theorem lenN_pos {m : Nat} (h : m ≠ 0) : lenN m ≠ 0 := fun e => by
  have := (lenN_le (m := m) (k := 0)).1 (by omega)
  simp at this
  exact h this

theorem shifts_walk (m : Nat) (n : Int) (hm : m < top) (_hn : (Lit.int .i64 n).wf = true) (w0 : World) :
    Calls Try.prog 11 #[uV m, .int .i64 n] w0 fun e w' => e = .returned (.bool true) ∧ Below w0.heap.size w0 w' := by
  obtain ⟨c, hc, hc1⟩ : ∃ c : Nat, (n % 256).toNat = c ∧ c < 256 := ⟨_, rfl, by omega⟩
  have h1 : 1 < top := Nat.lt_trans (by decide) top_big
  have hc2 : 2 ^ c < top := by rw [top_pow]; exact Nat.pow_lt_pow_right (by decide) hc1
  have hp2 : 0 < 2 ^ c := Nat.two_pow_pos c
  have e1 : m * 2 ^ (1 : Int).toNat = m + m := by rw [show (1 : Int).toNat = 1 from rfl]; omega
  have e3 : 1 * 2 ^ c % top = 2 ^ c := by rw [Nat.one_mul, Nat.mod_eq_of_lt hc2]
  have hL := lenN_top hm
  refine shifts_main m ((m + m) % top) (m * 2 ^ c % top) (2 ^ c) (m / 2 ^ c) (m % 2 ^ c) n (n % 256) (lenN m) (decide (top ≤ m + m)) (decide (top ≤ m * 2 ^ c)) (decide (top ≤ 1 * 2 ^ c))
    (i64_and255 n) (by omega) (by omega) (by omega) (by omega) (add_c m m hm hm) (fun w => ?_) (fun w => ?_) (of_lit 1 (by decide)) (fun w => ?_) (fun w => ?_) (fun w => ?_) (len_c m hm) ?_ w0
  · have := shl_c m hm 1 w; rw [e1] at this; exact this
  · have := shl_c m hm (n % 256) w; rw [hc] at this; exact this
  · have := shl_c 1 h1 (n % 256) w; rw [hc, e3] at this; exact this
  · have := div_c m (2 ^ c) hm hc2 w
    rw [if_neg (by omega), if_neg (by omega), decide_eq_true (by omega)] at this
    exact this
  · have := shr_c m hm (n % 256) w; rw [hc] at this; exact this
  · rw [isZ_eq hm]
    have en : n % 256 = (c : Int) := by omega
    rw [en]
    rcases Nat.eq_zero_or_pos m with h0 | h0
    · subst h0
      refine .inr ⟨decide_eq_false (by omega), fun w => ?_, decide_eq_false (by rw [lenN_zero]; omega), .inr ⟨rfl, by rw [lenN_zero]; rfl⟩⟩
      have := shr_c (0 * 2 ^ c % top) (Nat.mod_lt _ (by omega)) (c : Int) w
      rw [Nat.zero_mul, Nat.zero_mod, Nat.zero_div] at this
      rw [Nat.zero_mul, Nat.zero_mod]
      exact this
    · have hz : decide (m = 0) = false := decide_eq_false (by omega)
      have hl : ((lenN m : Int) == 0) = false := by
        have := lenN_pos (m := m) (by omega)
        rw [beq_eq_false_iff_ne]
        omega
      by_cases hg : top ≤ m * 2 ^ c
      · refine .inl ⟨decide_eq_true hg, decide_eq_true ?_, hz, hl⟩
        have := (lost_iff (m := m) (n := c) (by omega)).1 hg
        omega
      · refine .inr ⟨decide_eq_false hg, fun w => ?_, decide_eq_false ?_, .inl ⟨hz, hl⟩⟩
        · have := shr_c (m * 2 ^ c % top) (Nat.mod_lt _ (by omega)) (c : Int) w
          rw [show (m * 2 ^ c % top) / 2 ^ (c : Int).toNat = m by rw [Int.toNat_natCast, Nat.mod_eq_of_lt (by omega), Nat.mul_div_cancel _ hp2]] at this
          exact this
        · intro h
          exact hg ((lost_iff (m := m) (n := c) (by omega)).2 (by omega))

open Go.ChangeShapes Go.WideShapes Go.ChangeAt
theorem u256Shifts_joined : joinedFacts Try.pinned.checked.prog 11 Try.f11 Rows.u256ShiftsSpec Rows.u256ShiftsRow = true := and_mk (and_mk (and_mk (and_mk (and_mk (and_mk (and_mk (and_mk (and_mk (and_mk (and_mk (and_mk (and_mk (and_mk (and_mk (and_mk (and_mk (and_mk (and_mk (and_mk (and_mk (and_mk (and_mk (and_mk (and_mk (and_mk (and_mk (and_mk (and_mk (and_mk (and_mk (by as_aux_lemma => kernel_rfl) laidOut) pf_maps) (by as_aux_lemma => kernel_rfl)) (by as_aux_lemma => kernel_rfl)) (by as_aux_lemma => kernel_rfl)) pf_stops) (by as_aux_lemma => kernel_rfl)) pf_knobs) (by as_aux_lemma => kernel_rfl)) (by as_aux_lemma => kernel_rfl)) (by as_aux_lemma => kernel_rfl)) (by as_aux_lemma => kernel_rfl)) (by as_aux_lemma => kernel_rfl)) (by as_aux_lemma => kernel_rfl)) (by as_aux_lemma => kernel_rfl)) (by as_aux_lemma => kernel_rfl)) (by as_aux_lemma => kernel_rfl)) (by as_aux_lemma => kernel_rfl)) (by as_aux_lemma => kernel_rfl)) (by as_aux_lemma => kernel_rfl)) (by as_aux_lemma => kernel_rfl)) pf_plain) (by as_aux_lemma => kernel_rfl)) pf_heard) pf_enter) pf_lifts) pf_make) (by as_aux_lemma => kernel_rfl)) (by as_aux_lemma => kernel_rfl)) (by as_aux_lemma => kernel_rfl)) (by as_aux_lemma => kernel_rfl)
set_option maxRecDepth 100000 in
theorem u256Shifts_lifted (os : Os) (started : os.Started) (H : Type) (enc : TypeId × Value → H) :
    ReturnsInHanded {} Try.checked os 11 .any (Rows.u256ShiftsSpec.pre6 enc Try.prog Try.f11 Rows.u256ShiftsRow.domain false) (Rows.u256ShiftsSpec.post enc Try.prog Try.f11 false true false false) := by
  refine returnsInHanded_of_change (C := Try.checked) own started (by kernel_rfl) Try.func11
    (ChangeSpec.witness6 (enc := enc) (C := Try.checked) false ⟨#[], #[.agg #[.int .u64 0, .int .u64 0, .int .u64 0, .int .u64 0], .int .i64 0], []⟩ 8 (by kernel_rfl) (by kernel_rfl) (by kernel_rfl) (by kernel_rfl)) ?_
  intro W base args ds gs before hval0 hW hcnd _
  have hval : ∀ (j : Nat) t v, Try.f11.params[j]? = some t → args[j]? = some v → Value.okWide Try.prog W .any base t v := hval0
  have hW' := hW
  obtain ⟨p, q, hA0, hV, rfl, hfz, hnd⟩ := hW
  have hA : DataW.TrodAll enc Try.prog W 0 (fun _ => true) true Try.f11.params.toList args.toList ds p := hA0
  rw [Try.params11] at hA hval
  obtain ⟨v0, vs0, d0, ds0, p0, q0, hargs, rfl, rfl, h0, r0⟩ := trodAll_cons hA
  obtain ⟨v1, vs1, d1, ds1, p1, q1, rfl, rfl, rfl, h1, r1⟩ := trodAll_cons r0
  obtain ⟨rfl, rfl, rfl⟩ := trodAll_nil r1
  obtain rfl : args = #[v0, v1] := by cases args; simp_all
  obtain ⟨rfl, rfl⟩ := trodVars_none hV
  have k0 := h0
  have lt0 : ∀ x ∈ p0, x.block < W.heap.size := by obtain ⟨m, hm⟩ := k0; exact DataW.trod_lt m _ _ _ hm
  have k1 := h1
  have lt1 : ∀ x ∈ p1, x.block < W.heap.size := by obtain ⟨m, hm⟩ := k1; exact DataW.trod_lt m _ _ _ hm
  obtain ⟨a0, w0, rfl⟩ := open_four Try.underlying35 (by kernel_rfl) (hval 0 35 v0 rfl rfl) h0
  obtain ⟨a1, rfl, rfl, rfl, w1⟩ := open_int Try.underlying3 (hval 1 3 v1 rfl rfl) h1
  clear hA0 hval0
  refine (shifts_walk a0 a1 w0 w1 W).mono fun e W' ⟨he, bel⟩ => ?_
  subst he
  exact ⟨_, rfl, _, _, _, [], _, [], hW', trodAll_mk1 (shut_bool Try.underlying4 _), (trodAll_cons_mk (Below.trod laidOut (by kernel_rfl) (of_decide_eq_true (by kernel_rfl)) k0 bel lt0) (trodAll_cons_mk (Below.trod laidOut (by kernel_rfl) (of_decide_eq_true (by kernel_rfl)) k1 bel lt1) trodAll_mk0)), rfl, bel.frame _, fun h => by cases h⟩
theorem u256Shifts_over : Rows.u256ShiftsRow.holds Try.pinned (OpenSpec.ofChange Rows.u256ShiftsSpec) :=
  OpenClaim.holds_of_wide 11 Try.f11 rfl rfl rfl rfl rfl rfl rfl ⟨rfl, rfl, rfl, rfl, rfl⟩ rfl rfl rfl rfl rfl (by kernel_rfl) Try.func11 u256Shifts_joined
    (of_decide_eq_true (by kernel_rfl)) (by unfold Func.isWrapper; first | (rw [if_pos (by decide +kernel)]; kernel_rfl) | (rw [if_neg (by decide +kernel)]; exact ⟨rfl, rfl⟩))
    (fun os started H enc _ => u256Shifts_lifted os started H enc)
/-- The statement. -/
theorem u256Shifts_proved : Rows.U256ShiftsSaid := u256Shifts_over
#print axioms u256Shifts_proved
end Go.Proofs.Ytkgjgdeaclefiaa
