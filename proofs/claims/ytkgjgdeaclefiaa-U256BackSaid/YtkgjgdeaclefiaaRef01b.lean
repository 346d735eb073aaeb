/-
  florinref01: Not.
-/
import Derived.Test.YtkgjgdeaclefiaaRef01a
import Derived.Deep.WholeRow
namespace Go.Proofs.Ytkgjgdeaclefiaa
open Go Go.Proofs Go.RowKit Go.Flo

/-- Round t of a loop of 256 over one row, beside other blocks. -/
structure RowR (f : Nat → Nat → Int) (l : List (Nat × Array Value × TypeId)) (b : Nat) (w0 : World) (i : Value) (wr : World) (t : Nat) : Prop where
  le : t ≤ 256
  at_ : i = .int .i64 (t : Int)
  locs : Locs wr ((b, rowI (f t), 145) :: l)
  below : Below w0.heap.size w0 wr

theorem row_next {f : Nat → Nat → Int} {l : List (Nat × Array Value × TypeId)} {b : Nat} {wr : World} {t : Nat} {x : Int} {T : TypeId} (h : Locs wr ((b, rowI (f t), T) :: l)) (hne : ∀ y ∈ l, y.1 ≠ b)
    (hx : ∀ j, (if j = t then x else f t j) = f (t + 1) j) : Locs (wr.setCell ⟨b, t, none⟩ (.int .i64 x)) ((b, rowI (f (t + 1)), T) :: l) := by
  have := Locs.cell (j := t) (v := .int .i64 x) h hne
  rw [rowI_set] at this
  rw [← show (fun j => if j = t then x else f t j) = f (t + 1) from funext hx]
  exact this

theorem bit_not (m t : Nat) (hm : m < top) (ht : t < 256) : 1 - bit m t = bit (top - 1 - m) t := by
  have e : (top - 1 - m) / 2 ^ t % 2 = 1 - m / 2 ^ t % 2 := by
    rw [top_pow] at hm ⊢
    have := Nat.testBit_two_pow_sub_succ (x := m) (n := 256) hm t
    rw [show 2 ^ 256 - (m + 1) = 2 ^ 256 - 1 - m by omega] at this
    rw [← Nat.toNat_testBit, ← Nat.toNat_testBit, this]
    simp only [ht, decide_true, Bool.true_and]
    cases m.testBit t <;> rfl
  unfold bit
  rw [e]
  omega

set_option maxRecDepth 100000 in
set_option maxHeartbeats 4000000 in
theorem rnot_c (m : Nat) (hm : m < top) (w0 : World) :
    Calls Try.prog 71 #[uV m] w0 fun e w' => e = .returned (uV (top - 1 - m)) ∧ Below w0.heap.size w0 w' := by
  have L := Locs.nil w0; have B := Below.refl w0.heap.size w0; have Bz := B.size; have F := Locs.facts L; simp only [LocFacts] at F
  go_enter Try.func71, Try.ntmps71
  go_wp2_with (first
    | (go_at_call 122; (with_reducible refine (digits_c _ _).mono ?_); rintro e w1 ⟨rfl, hb⟩; replace L := Locs.below (by (first | (with_reducible exact L) | (with_reducible exact Locs.push L) | (with_reducible exact Locs.push (Locs.push L)) | (with_reducible exact Locs.push (Locs.push (Locs.push L))) | (with_reducible exact Locs.push (Locs.push (Locs.push (Locs.push L)))) | (with_reducible exact Locs.drew L) | (with_reducible exact Locs.drew (Locs.push L)) | (with_reducible exact Locs.push (Locs.drew L)))) hb; (replace B := Flo.below_step (w := w0) (by repeat' (first | (with_reducible exact Below.refl _ _) | (with_reducible assumption) | (with_reducible refine Below.drew ?_) | (with_reducible refine Below.alloc ?_ ?_ _) | (with_reducible refine Below.setCell ?_ ?_ _) | (with_reducible refine Flo.below_step ?_ (by assumption)) | (simp; done) | (simp; omega))) hb); clear hb; (try clear F); (try clear Bz); (try simp only [World.size_alloc] at L); (try simp only [heap_drew] at L); have Bz := B.size; have F := Locs.facts L; simp only [LocFacts] at F)
    | (refine wl_alloc rfl 145 rfl bitsZ ?_)
    | (refine wl_store rfl 145 _ _ rfl bitsT rfl rfl (heap_alloc_new _ _) (rowI_size _) (rowI_size _) (rowI_one _) ?_; rw [World.setRow_alloc_new]))
  have hn := L.old (Nat.le_refl _)
  have L0 := Locs.push L (cs := rowI (bit m)) (t := 145)
  have hf0 : (fun j => if j < 0 then 1 - bit m j else bit m j) = bit m := funext fun j => if_neg (Nat.not_lt_zero j)
  rw [← hf0] at L0
  have HB := below_step B ((Below.refl _ _).alloc (Nat.le_refl _) (.cells (rowI (bit m)) 145))
  obtain ⟨b, hb⟩ : ∃ b, b = w1.heap.size := ⟨_, rfl⟩
  have hb0 : w0.heap.size + 1 < b := by rw [hb]; exact F.1
  rw [← hb] at L0 hn
  go_loopw [4] (fun i wr => ∃ t, RowR (fun t j => if j < t then 1 - bit m j else bit m j) [(w0.heap.size + 1, #[.int .u64 0, .int .u64 0, .int .u64 0, .int .u64 0], 35), (w0.heap.size, #[.int .u64 (l0 m), .int .u64 (l1 m), .int .u64 (l2 m), .int .u64 (l3 m)], 35)] b w0 i wr t) (fun i _ => (256 - intOf i).toNat)
  case atStart => exact ⟨0, Nat.zero_le _, rfl, L0, HB⟩
  case round =>
    clear HB hf0 L0 L B Bz F
    rw [← hb]
    clear hb
    obtain ⟨t, le, rfl, L, B⟩ := hrel
    have Bz := B.size
    have F := Locs.facts L
    simp only [LocFacts] at F
    rcases Nat.lt_or_ge t 256 with hlt | hge
    · have hg : (rowI fun j => if j < t then 1 - bit m j else bit m j)[t]? = some (.int .i64 (bit m t)) := by rw [rowI_get _ hlt, if_neg (Nat.lt_irrefl t)]
      have hs := bit_small m t
      have HL := Lib.hid L
      clear L
      go_wp2
      have H := row_next (f := fun t j => if j < t then 1 - bit m j else bit m j) (x := 1 - bit m t) HL.out hn (fun j => by
        by_cases h : j = t
        · subst h; simp
        · by_cases h' : j < t
          · simp [h, h', Nat.lt_succ_of_lt h']
          · have : ¬ j < t + 1 := by omega
            simp [h, h', this])
      exact ⟨⟨t + 1, by omega, by simp, H, B.setCell (by simp; omega) _⟩, by simp only [intOf]; omega⟩
    · obtain rfl : t = 256 := by omega
      have e : (rowI fun j => if j < 256 then 1 - bit m j else bit m j) = rowI (bit (top - 1 - m)) := rowI_congr fun j hj => by rw [if_pos hj]; exact bit_not m j hm hj
      have L : Locs wr ((b, rowI (bit (top - 1 - m)), 145) :: _) := e ▸ L
      clear F
      go_wp2_with (first
        | (refine wl_load rfl 145 _ rfl bitsT rfl L.1 (rowI_size _) ?_)
        | (go_at_call 123; (with_reducible refine (number_c (top - 1 - m) (by omega) _).mono ?_); rintro e w1 ⟨rfl, hb⟩; replace L := Locs.below (by (first | (with_reducible exact L) | (with_reducible exact Locs.push L) | (with_reducible exact Locs.push (Locs.push L)) | (with_reducible exact Locs.push (Locs.push (Locs.push L))) | (with_reducible exact Locs.push (Locs.push (Locs.push (Locs.push L)))) | (with_reducible exact Locs.drew L) | (with_reducible exact Locs.drew (Locs.push L)) | (with_reducible exact Locs.push (Locs.drew L)))) hb; (replace B := Flo.below_step (w := w0) (by repeat' (first | (with_reducible exact Below.refl _ _) | (with_reducible assumption) | (with_reducible refine Below.drew ?_) | (with_reducible refine Below.alloc ?_ ?_ _) | (with_reducible refine Below.setCell ?_ ?_ _) | (with_reducible refine Flo.below_step ?_ (by assumption)) | (simp; done) | (simp; omega))) hb); clear hb; (try clear F); (try clear Bz); (try simp only [World.size_alloc] at L); (try simp only [heap_drew] at L); have Bz := B.size; have F := Locs.facts L; simp only [LocFacts] at F))
      refine bodyPost_ret (results_cell_row Try.results71 _ _ (w0.heap.size + 1) 35 _ (0, 0) _ rfl (put4_same L.2.1 _ _ _ _) Try.underlying35 rfl (by kernel_rfl)) rfl ⟨rfl, ?_⟩
      exact Below.put4 B (by omega) _ _ _ _
end Go.Proofs.Ytkgjgdeaclefiaa
