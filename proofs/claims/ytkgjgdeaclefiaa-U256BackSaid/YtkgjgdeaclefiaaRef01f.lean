/-
  florinref01: Cmp, Len.
-/
import Derived.Test.YtkgjgdeaclefiaaRef01e
import Derived.Test.YtkgjgdeaclefiaaU256b2
namespace Go.Proofs.Ytkgjgdeaclefiaa
open Go Go.Proofs Go.RowKit Go.Flo

/-- Round of Cmp: the digits from k on are alike. -/
structure CmpR (m n : Nat) (x y : Nat) (w0 : World) (i : Value) (wr : World) (k : Nat) : Prop where
  le : k ≤ 256
  at_ : i = .int .i64 ((k : Int) - 1)
  same : m / 2 ^ k = n / 2 ^ k
  locs : Locs wr [(x, rowI (bit m), 145), (y, rowI (bit n), 145)]
  below : Below w0.heap.size w0 wr

theorem bit_up (m k : Nat) : ((m / 2 ^ k : Nat) : Int) = 2 * ((m / 2 ^ (k + 1) : Nat) : Int) + bit m k := by
  unfold bit
  rw [Nat.pow_succ, ← Nat.div_div_eq_div_mul]
  omega
theorem lt_of_digits {m n k : Nat} (h : m / 2 ^ k < n / 2 ^ k) : m < n := by
  rcases Nat.lt_or_ge m n with h' | h'
  · exact h'
  · exact absurd (Nat.div_le_div_right (c := 2 ^ k) h') (by omega)

set_option maxRecDepth 100000 in
set_option maxHeartbeats 4000000 in
theorem rcmp_c (m n : Nat) (hm : m < top) (hn : n < top) (w0 : World) :
    Calls Try.prog 68 #[uV m, uV n] w0 fun e w' => e = .returned (.int .i64 (cmpI m n)) ∧ Below w0.heap.size w0 w' := by
  have L := Locs.nil w0; have B := Below.refl w0.heap.size w0; have Bz := B.size; have F := Locs.facts L; simp only [LocFacts] at F
  go_enter Try.func68, Try.ntmps68
  go_wp2_with (first
    | (go_at_call 122; (with_reducible refine (digits_c m _).mono ?_); rintro e wx ⟨rfl, hb⟩; replace L := Locs.below (by (first | (with_reducible exact L) | (with_reducible exact Locs.push L) | (with_reducible exact Locs.push (Locs.push L)) | (with_reducible exact Locs.push (Locs.push (Locs.push L))) | (with_reducible exact Locs.push (Locs.push (Locs.push (Locs.push L)))) | (with_reducible exact Locs.drew L) | (with_reducible exact Locs.drew (Locs.push L)) | (with_reducible exact Locs.push (Locs.drew L)))) hb; (replace B := Flo.below_step (w := w0) (by repeat' (first | (with_reducible exact Below.refl _ _) | (with_reducible assumption) | (with_reducible refine Below.drew ?_) | (with_reducible refine Below.alloc ?_ ?_ _) | (with_reducible refine Below.setCell ?_ ?_ _) | (with_reducible refine Flo.below_step ?_ (by assumption)) | (simp; done) | (simp; omega))) hb); clear hb; (try clear F); (try clear Bz); (try simp only [World.size_alloc] at L); (try simp only [heap_drew] at L); have Bz := B.size; have F := Locs.facts L; simp only [LocFacts] at F)
    | (go_at_call 122; (with_reducible refine (digits_c n _).mono ?_); rintro e wy ⟨rfl, hb⟩; replace L := Locs.below (by (first | (with_reducible exact L) | (with_reducible exact Locs.push L) | (with_reducible exact Locs.push (Locs.push L)) | (with_reducible exact Locs.push (Locs.push (Locs.push L))) | (with_reducible exact Locs.push (Locs.push (Locs.push (Locs.push L)))) | (with_reducible exact Locs.drew L) | (with_reducible exact Locs.drew (Locs.push L)) | (with_reducible exact Locs.push (Locs.drew L)))) hb; (replace B := Flo.below_step (w := w0) (by repeat' (first | (with_reducible exact Below.refl _ _) | (with_reducible assumption) | (with_reducible refine Below.drew ?_) | (with_reducible refine Below.alloc ?_ ?_ _) | (with_reducible refine Below.setCell ?_ ?_ _) | (with_reducible refine Flo.below_step ?_ (by assumption)) | (simp; done) | (simp; omega))) hb); clear hb; (try clear F); (try clear Bz); (try simp only [World.size_alloc] at L); (try simp only [heap_drew] at L); have Bz := B.size; have F := Locs.facts L; simp only [LocFacts] at F)
    | (refine wl_alloc rfl 145 rfl bitsZ ?_)
    | (refine wl_store rfl 145 _ _ rfl bitsT rfl rfl (heap_alloc_new _ _) (rowI_size _) (rowI_size _) (rowI_one _) ?_; rw [World.setRow_alloc_new]))
  have L0 := Locs.push L (cs := rowI (bit n)) (t := 145)
  have HB := below_step B ((Below.refl _ _).alloc (Nat.le_refl _) (.cells (rowI (bit n)) 145))
  have L1 : Locs _ [(wx.heap.size, rowI (bit m), 145), (wy.heap.size, rowI (bit n), 145)] := ⟨L0.2.1, L0.1, trivial⟩
  clear L0 L F Bz B
  obtain ⟨x, hx⟩ : ∃ x, x = wx.heap.size := ⟨_, rfl⟩
  obtain ⟨y, hy⟩ : ∃ y, y = wy.heap.size := ⟨_, rfl⟩
  rw [← hx, ← hy] at L1
  have top0 : m / 2 ^ 256 = n / 2 ^ 256 := by rw [← top_pow, Nat.div_eq_of_lt hm, Nat.div_eq_of_lt hn]
  go_loopw [7] (fun i wr => ∃ k, CmpR m n x y w0 i wr k) (fun i _ => (intOf i + 1).toNat)
  case atStart => exact ⟨256, Nat.le_refl _, rfl, top0, L1, HB⟩
  case round =>
    clear L1 HB top0
    rw [← hx, ← hy]
    clear hx hy
    obtain ⟨k, le, rfl, same, L, B⟩ := hrel
    have Bz := B.size
    have F := Locs.facts L
    simp only [LocFacts] at F
    have same := Lib.hid same
    have HL := Lib.hid L
    clear L
    rcases k with _ | k
    · have e : ((0 : Nat) : Int) - 1 = -1 := rfl
      rw [e]
      have hmn : m = n := by have := same.out; simpa using this
      subst hmn
      go_wp2
      refine bodyPost_ret (v := .int .i64 (cmpI m m)) (by simp [results, Try.results68, go_sem, cmpI_eq]) rfl ⟨rfl, B⟩
    · have e : ((k + 1 : Nat) : Int) - 1 = (k : Int) := by omega
      rw [e]
      have hg : (rowI (bit m))[k]? = some (.int .i64 (bit m k)) := rowI_get _ (by omega)
      have hg' : (rowI (bit n))[k]? = some (.int .i64 (bit n k)) := rowI_get _ (by omega)
      have u1 := Lib.hid (bit_up m k)
      have u2 := Lib.hid (bit_up n k)
      rcases Int.lt_trichotomy (bit m k) (bit n k) with h | h | h
      · have hlt : m < n := lt_of_digits (k := k) (by have := u1.out; have := u2.out; have := same.out; omega)
        go_wp2
        (refine Flo.wp_region_auto (fun _ => True) Flo.rd (by kernel_rfl) (by decide +kernel) (trivial) ?_; repeat (first | (refine Flo.au_skip (by exact rfl) (by exact rfl) ?_; simp only [Act.put, List.setIfInBounds_toArray, List.set_cons_zero, List.set_cons_succ]) | (refine Flo.au_free (by exact rfl) (by exact rfl) (by exact rfl) ?_; intro K hK; go_big_quiet_op; go_big_quiet_on) | (refine Flo.au_still (by exact rfl) (by exact rfl) (by exact rfl) ?_; intro K hK; go_simp; refine hK _ ?_; clear hK K) | (refine Flo.au_move (by exact rfl) (by exact rfl) ?_; intro K hK; go_wp2_with (fail); try (with_reducible refine ⟨rfl, trivial, ?_⟩)) | (refine Flo.mix_nil ?_)))
        go_wp2
        refine bodyPost_ret (v := .int .i64 (cmpI m n)) (by simp [results, Try.results68, go_sem, cmpI_lt hlt]) rfl ⟨rfl, B.drew⟩
      · have same' := Lib.hid (show m / 2 ^ k = n / 2 ^ k by have := u1.out; have := u2.out; have := same.out; omega)
        have hge : ¬ bit m k < bit n k := by omega
        have hge' : ¬ bit n k < bit m k := by omega
        go_wp2
        (refine Flo.wp_region_auto (fun _ => True) Flo.rd (by kernel_rfl) (by decide +kernel) (trivial) ?_; repeat (first | (refine Flo.au_skip (by exact rfl) (by exact rfl) ?_; simp only [Act.put, List.setIfInBounds_toArray, List.set_cons_zero, List.set_cons_succ]) | (refine Flo.au_free (by exact rfl) (by exact rfl) (by exact rfl) ?_; intro K hK; go_big_quiet_op; go_big_quiet_on) | (refine Flo.au_still (by exact rfl) (by exact rfl) (by exact rfl) ?_; intro K hK; go_simp; refine hK _ ?_; clear hK K) | (refine Flo.au_move (by exact rfl) (by exact rfl) ?_; intro K hK; go_wp2_with (fail); try (with_reducible refine ⟨rfl, trivial, ?_⟩)) | (refine Flo.mix_nil ?_)))
        go_wp2
        (refine Flo.wp_region_auto (fun _ => True) Flo.rd (by kernel_rfl) (by decide +kernel) (trivial) ?_; repeat (first | (refine Flo.au_skip (by exact rfl) (by exact rfl) ?_; simp only [Act.put, List.setIfInBounds_toArray, List.set_cons_zero, List.set_cons_succ]) | (refine Flo.au_free (by exact rfl) (by exact rfl) (by exact rfl) ?_; intro K hK; go_big_quiet_op; go_big_quiet_on) | (refine Flo.au_still (by exact rfl) (by exact rfl) (by exact rfl) ?_; intro K hK; go_simp; refine hK _ ?_; clear hK K) | (refine Flo.au_move (by exact rfl) (by exact rfl) ?_; intro K hK; go_wp2_with (fail); try (with_reducible refine ⟨rfl, trivial, ?_⟩)) | (refine Flo.mix_nil ?_)))
        go_wp2
        exact ⟨⟨k, by omega, rfl, same'.out, HL.out.drew.drew, B.drew.drew⟩, by simp only [intOf]; omega⟩
      · have hgt : n < m := lt_of_digits (k := k) (by have := u1.out; have := u2.out; have := same.out; omega)
        have hge : ¬ bit m k < bit n k := by omega
        go_wp2
        (refine Flo.wp_region_auto (fun _ => True) Flo.rd (by kernel_rfl) (by decide +kernel) (trivial) ?_; repeat (first | (refine Flo.au_skip (by exact rfl) (by exact rfl) ?_; simp only [Act.put, List.setIfInBounds_toArray, List.set_cons_zero, List.set_cons_succ]) | (refine Flo.au_free (by exact rfl) (by exact rfl) (by exact rfl) ?_; intro K hK; go_big_quiet_op; go_big_quiet_on) | (refine Flo.au_still (by exact rfl) (by exact rfl) (by exact rfl) ?_; intro K hK; go_simp; refine hK _ ?_; clear hK K) | (refine Flo.au_move (by exact rfl) (by exact rfl) ?_; intro K hK; go_wp2_with (fail); try (with_reducible refine ⟨rfl, trivial, ?_⟩)) | (refine Flo.mix_nil ?_)))
        go_wp2
        (refine Flo.wp_region_auto (fun _ => True) Flo.rd (by kernel_rfl) (by decide +kernel) (trivial) ?_; repeat (first | (refine Flo.au_skip (by exact rfl) (by exact rfl) ?_; simp only [Act.put, List.setIfInBounds_toArray, List.set_cons_zero, List.set_cons_succ]) | (refine Flo.au_free (by exact rfl) (by exact rfl) (by exact rfl) ?_; intro K hK; go_big_quiet_op; go_big_quiet_on) | (refine Flo.au_still (by exact rfl) (by exact rfl) (by exact rfl) ?_; intro K hK; go_simp; refine hK _ ?_; clear hK K) | (refine Flo.au_move (by exact rfl) (by exact rfl) ?_; intro K hK; go_wp2_with (fail); try (with_reducible refine ⟨rfl, trivial, ?_⟩)) | (refine Flo.mix_nil ?_)))
        go_wp2
        refine bodyPost_ret (v := .int .i64 (cmpI m n)) (by simp [results, Try.results68, go_sem, cmpI_gt hgt]) rfl ⟨rfl, B.drew.drew⟩

structure LenR (m : Nat) (x : Nat) (w0 : World) (i : Value) (wr : World) (k : Nat) : Prop where
  le : k ≤ 256
  at_ : i = .int .i64 ((k : Int) - 1)
  same : m / 2 ^ k = 0
  locs : Locs wr [(x, rowI (bit m), 145)]
  below : Below w0.heap.size w0 wr
theorem lenN_of {m k : Nat} (h : m / 2 ^ k = 1) : lenN m = k + 1 := by
  have hp := Nat.two_pow_pos k
  have h1 : lenN m ≤ k + 1 := lenN_le.2 (by
    have := Nat.lt_mul_div_succ m hp
    rw [h] at this
    rw [Nat.pow_succ]
    omega)
  have h2 : ¬ lenN m ≤ k := fun h' => by
    have := lenN_le.1 h'
    rw [Nat.div_eq_of_lt this] at h
    omega
  omega

set_option maxRecDepth 100000 in
set_option maxHeartbeats 4000000 in
theorem rlen_c (m : Nat) (hm : m < top) (w0 : World) :
    Calls Try.prog 70 #[uV m] w0 fun e w' => e = .returned (.int .i64 (lenN m)) ∧ Below w0.heap.size w0 w' := by
  have L := Locs.nil w0; have B := Below.refl w0.heap.size w0; have Bz := B.size; have F := Locs.facts L; simp only [LocFacts] at F
  go_enter Try.func70, Try.ntmps70
  go_wp2_with (first
    | (go_at_call 122; (with_reducible refine (digits_c m _).mono ?_); rintro e wx ⟨rfl, hb⟩; replace L := Locs.below (by (first | (with_reducible exact L) | (with_reducible exact Locs.push L) | (with_reducible exact Locs.push (Locs.push L)) | (with_reducible exact Locs.push (Locs.push (Locs.push L))) | (with_reducible exact Locs.push (Locs.push (Locs.push (Locs.push L)))) | (with_reducible exact Locs.drew L) | (with_reducible exact Locs.drew (Locs.push L)) | (with_reducible exact Locs.push (Locs.drew L)))) hb; (replace B := Flo.below_step (w := w0) (by repeat' (first | (with_reducible exact Below.refl _ _) | (with_reducible assumption) | (with_reducible refine Below.drew ?_) | (with_reducible refine Below.alloc ?_ ?_ _) | (with_reducible refine Below.setCell ?_ ?_ _) | (with_reducible refine Flo.below_step ?_ (by assumption)) | (simp; done) | (simp; omega))) hb); clear hb; (try clear F); (try clear Bz); (try simp only [World.size_alloc] at L); (try simp only [heap_drew] at L); have Bz := B.size; have F := Locs.facts L; simp only [LocFacts] at F)
    | (refine wl_alloc rfl 145 rfl bitsZ ?_)
    | (refine wl_store rfl 145 _ _ rfl bitsT rfl rfl (heap_alloc_new _ _) (rowI_size _) (rowI_size _) (rowI_one _) ?_; rw [World.setRow_alloc_new]))
  have L0 := Locs.push L (cs := rowI (bit m)) (t := 145)
  have HB := below_step B ((Below.refl _ _).alloc (Nat.le_refl _) (.cells (rowI (bit m)) 145))
  have L1 : Locs _ [(wx.heap.size, rowI (bit m), 145)] := ⟨L0.1, trivial⟩
  clear L0 L F Bz B
  obtain ⟨x, hx⟩ : ∃ x, x = wx.heap.size := ⟨_, rfl⟩
  rw [← hx] at L1
  have top0 : m / 2 ^ 256 = 0 := by rw [← top_pow, Nat.div_eq_of_lt hm]
  go_loopw [4] (fun i wr => ∃ k, LenR m x w0 i wr k) (fun i _ => (intOf i + 1).toNat)
  case atStart => exact ⟨256, Nat.le_refl _, rfl, top0, L1, HB⟩
  case round =>
    clear L1 HB top0
    rw [← hx]
    clear hx
    obtain ⟨k, le, rfl, same, L, B⟩ := hrel
    have Bz := B.size
    have F := Locs.facts L
    simp only [LocFacts] at F
    have same := Lib.hid same
    have HL := Lib.hid L
    clear L
    rcases k with _ | k
    · have e : ((0 : Nat) : Int) - 1 = -1 := rfl
      rw [e]
      have hmn : m = 0 := by have := same.out; simpa using this
      subst hmn
      go_wp2
      have hz : lenN 0 = 0 := by decide +kernel
      refine bodyPost_ret (v := .int .i64 (lenN 0)) (by rw [hz]; simp [results, Try.results70, go_sem]) rfl ⟨rfl, B⟩
    · have e : ((k + 1 : Nat) : Int) - 1 = (k : Int) := by omega
      rw [e]
      have hg : (rowI (bit m))[k]? = some (.int .i64 (bit m k)) := rowI_get _ (by omega)
      have hs := bit_small m k
      have u1 := Lib.hid (bit_up m k)
      rcases Int.lt_or_le (bit m k) 1 with h | h
      · have hb : (bit m k == 1) = false := by rw [beq_eq_false_iff_ne]; omega
        have same' := Lib.hid (show m / 2 ^ k = 0 by have := u1.out; have := same.out; omega)
        go_wp2
        exact ⟨⟨k, by omega, rfl, same'.out, HL.out, B⟩, by simp only [intOf]; omega⟩
      · have hb : (bit m k == 1) = true := by rw [beq_iff_eq]; omega
        have hl := Lib.hid (lenN_of (m := m) (k := k) (by have := u1.out; have := same.out; omega))
        go_wp2
        refine bodyPost_ret (v := .int .i64 (lenN m)) (by rw [hl.out]; simp [results, Try.results70, go_sem]) rfl ⟨rfl, B⟩
end Go.Proofs.Ytkgjgdeaclefiaa
