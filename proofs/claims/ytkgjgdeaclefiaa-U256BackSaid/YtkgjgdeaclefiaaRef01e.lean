/-
  florinref01: Sub.
-/
import Derived.Test.YtkgjgdeaclefiaaRef01d
namespace Go.Proofs.Ytkgjgdeaclefiaa
open Go Go.Proofs Go.RowKit Go.Flo

theorem dif_digit (m n t : Nat) (hn : n < top) (ht : t < 256) : (m + top - n) / 2 ^ t % 2 + n / 2 ^ t % 2 + carry (m + top - n) n t = m / 2 ^ t % 2 + 2 * carry (m + top - n) n (t + 1) := by
  have h1 := sum_digit (m + top - n) n t
  have h2 := carry_succ (m + top - n) n t
  have h3 : (m + top - n + n) / 2 ^ t % 2 = m / 2 ^ t % 2 := by
    rw [show m + top - n + n = m + top by omega]
    have := bit_top (m + top) t ht
    rw [Nat.add_mod_right] at this
    have h := bit_top m t ht
    rw [this] at h
    unfold bit at h
    omega
  omega
/-- Round t of Sub: D is m + top - n; what is borrowed is what D + n carries. -/
structure SubR (m n : Nat) (l : List (Nat × Array Value × TypeId)) (b : Nat) (w0 : World) (c i : Value) (wr : World) (t : Nat) : Prop where
  le : t ≤ 256
  at_ : i = .int .i64 (t : Int)
  carry_ : c = .int .i64 (carry (m + top - n) n t : Int)
  locs : Locs wr ((b, rowI (fun j => if j < t then bit (m + top - n) j else bit m j), 145) :: l)
  below : Below w0.heap.size w0 wr

set_option maxRecDepth 100000 in
set_option maxHeartbeats 4000000 in
theorem rsub_c (m n : Nat) (hm : m < top) (hn : n < top) (w0 : World) :
    Calls Try.prog 64 #[uV m, uV n] w0 fun e w' => e = .returned (.tuple #[uV ((m + top - n) % top), .bool (decide (m < n))]) ∧ Below w0.heap.size w0 w' := by
  have L := Locs.nil w0; have B := Below.refl w0.heap.size w0; have Bz := B.size; have F := Locs.facts L; simp only [LocFacts] at F
  go_enter Try.func64, Try.ntmps64
  go_wp2_with (first
    | (go_at_call 122; (with_reducible refine (digits_c m _).mono ?_); rintro e wx ⟨rfl, hb⟩; replace L := Locs.below (by (first | (with_reducible exact L) | (with_reducible exact Locs.push L) | (with_reducible exact Locs.push (Locs.push L)) | (with_reducible exact Locs.push (Locs.push (Locs.push L))) | (with_reducible exact Locs.push (Locs.push (Locs.push (Locs.push L)))) | (with_reducible exact Locs.drew L) | (with_reducible exact Locs.drew (Locs.push L)) | (with_reducible exact Locs.push (Locs.drew L)))) hb; (replace B := Flo.below_step (w := w0) (by repeat' (first | (with_reducible exact Below.refl _ _) | (with_reducible assumption) | (with_reducible refine Below.drew ?_) | (with_reducible refine Below.alloc ?_ ?_ _) | (with_reducible refine Below.setCell ?_ ?_ _) | (with_reducible refine Flo.below_step ?_ (by assumption)) | (simp; done) | (simp; omega))) hb); clear hb; (try clear F); (try clear Bz); (try simp only [World.size_alloc] at L); (try simp only [heap_drew] at L); have Bz := B.size; have F := Locs.facts L; simp only [LocFacts] at F; have Bx := Lib.hid B.size)
    | (go_at_call 122; (with_reducible refine (digits_c n _).mono ?_); rintro e wy ⟨rfl, hb⟩; replace L := Locs.below (by (first | (with_reducible exact L) | (with_reducible exact Locs.push L) | (with_reducible exact Locs.push (Locs.push L)) | (with_reducible exact Locs.push (Locs.push (Locs.push L))) | (with_reducible exact Locs.push (Locs.push (Locs.push (Locs.push L)))) | (with_reducible exact Locs.drew L) | (with_reducible exact Locs.drew (Locs.push L)) | (with_reducible exact Locs.push (Locs.drew L)))) hb; (replace B := Flo.below_step (w := w0) (by repeat' (first | (with_reducible exact Below.refl _ _) | (with_reducible assumption) | (with_reducible refine Below.drew ?_) | (with_reducible refine Below.alloc ?_ ?_ _) | (with_reducible refine Below.setCell ?_ ?_ _) | (with_reducible refine Flo.below_step ?_ (by assumption)) | (simp; done) | (simp; omega))) hb); clear hb; (try clear F); (try clear Bz); (try simp only [World.size_alloc] at L); (try simp only [heap_drew] at L); have Bz := B.size; have F := Locs.facts L; simp only [LocFacts] at F)
    | (refine wl_alloc rfl 145 rfl bitsZ ?_)
    | (refine wl_store rfl 145 _ _ rfl bitsT rfl rfl (heap_alloc_new _ _) (rowI_size _) (rowI_size _) (rowI_one _) ?_; rw [World.setRow_alloc_new]))
  have L0 := Locs.push L (cs := rowI (bit n)) (t := 145)
  have hf0 : (fun j => if j < 0 then bit (m + top - n) j else bit m j) = bit m := funext fun j => if_neg (Nat.not_lt_zero j)
  have HB := below_step B ((Below.refl _ _).alloc (Nat.le_refl _) (.cells (rowI (bit n)) 145))
  have n1 : w0.heap.size + 1 + 1 ≠ wx.heap.size := fun e => by have h := L.2.1; have h2 := L.1; rw [e, h2] at h; simp at h
  rw [← hf0] at L0
  have L1 : Locs _ ((wx.heap.size, _, _) :: (wy.heap.size, _, _) :: _) := ⟨L0.2.1, L0.1, L0.2.2⟩
  have n2 : wx.heap.size < wy.heap.size := F.1
  clear L0 L F Bz B
  obtain ⟨x, hx⟩ : ∃ x, x = wx.heap.size := ⟨_, rfl⟩
  obtain ⟨y, hy⟩ : ∃ y, y = wy.heap.size := ⟨_, rfl⟩
  rw [← hx, ← hy] at L1 n2
  have n0 := Bx.out
  clear Bx
  rw [← hx] at n1 n0
  go_loopw [8, 9] (fun c i wr => ∃ t, SubR m n [(y, rowI (bit n), 145), (w0.heap.size + 1 + 1, #[.int .u64 0, .int .u64 0, .int .u64 0, .int .u64 0], 35)] x w0 c i wr t) (fun _ i _ => (256 - intOf i).toNat)
  case atStart => exact ⟨0, Nat.zero_le _, rfl, by rw [carry_zero]; rfl, ⟨L1.1, L1.2.1, L1.2.2.1, trivial⟩, HB⟩
  case round =>
    obtain ⟨t, le, rfl, rfl, L, B⟩ := hrel
    have Bz := B.size
    have F := Locs.facts L
    simp only [LocFacts] at F
    have hc1 := carry_le (m + top - n) n t
    obtain ⟨c, hc⟩ : ∃ c : Nat, c = carry (m + top - n) n t := ⟨_, rfl⟩
    rcases Nat.lt_or_ge t 256 with hlt | hge
    · have hg : (rowI fun j => if j < t then bit (m + top - n) j else bit m j)[t]? = some (.int .i64 (bit m t)) := by rw [rowI_get _ hlt, if_neg (Nat.lt_irrefl t)]
      have hg' : (rowI (bit n))[t]? = some (.int .i64 (bit n t)) := rowI_get _ hlt
      have hs := bit_small m t
      have hs' := bit_small n t
      have HL := Lib.hid L
      clear L L1 HB hf0
      rw [← hc] at hc1 ⊢
      have Hc := Lib.hid hc
      clear hc
      rw [← hx, ← hy]
      clear hx hy
      have E := dif_digit m n t hn hlt
      rw [← Hc.out] at E
      have hk := carry_le (m + top - n) n (t + 1)
      obtain ⟨k, hk1⟩ : ∃ k, k = carry (m + top - n) n (t + 1) := ⟨_, rfl⟩
      rw [← hk1] at E hk
      have hK := Lib.hid hk1
      have hdj := Lib.hid (show bit (m + top - n) t + bit n t + (c : Int) = bit m t + 2 * (k : Int) by unfold bit; omega)
      have hd2 := Lib.hid (bit_small (m + top - n) t)
      clear E hk1
      have fin : ∀ j, (if j = t then bit (m + top - n) t else (fun t j => if j < t then bit (m + top - n) j else bit m j) t j) = (fun t j => if j < t then bit (m + top - n) j else bit m j) (t + 1) j := fun j => by
        by_cases h : j = t
        · subst h; simp
        · by_cases h' : j < t
          · simp [h, h', Nat.lt_succ_of_lt h']
          · have : ¬ j < t + 1 := by omega
            simp [h, h', this]
      have H := row_next (f := fun t j => if j < t then bit (m + top - n) j else bit m j) (x := bit (m + top - n) t) HL.out (by simp; omega) fin
      have HH := Lib.hid H
      clear H fin
      rcases Nat.lt_or_ge 0 k with hk0 | hk0
      · have hneg : bit m t - bit n t - (c : Int) < 0 := by have := hdj.out; have := hd2.out; omega
        go_wp2
        (refine Flo.wp_region_auto (fun _ => True) Flo.rd (by kernel_rfl) (by decide +kernel) (trivial) ?_; repeat (first | (refine Flo.au_skip (by exact rfl) (by exact rfl) ?_; simp only [Act.put, List.setIfInBounds_toArray, List.set_cons_zero, List.set_cons_succ]) | (refine Flo.au_free (by exact rfl) (by exact rfl) (by exact rfl) ?_; intro K hK; go_big_quiet_op; go_big_quiet_on) | (refine Flo.au_still (by exact rfl) (by exact rfl) (by exact rfl) ?_; intro K hK; go_simp; refine hK _ ?_; clear hK K) | (refine Flo.au_move (by exact rfl) (by exact rfl) ?_; intro K hK; go_wp2_with (fail); try (with_reducible refine ⟨rfl, trivial, ?_⟩)) | (refine Flo.mix_nil ?_)))
        go_wp2
        rw [show bit m t - bit n t - (c : Int) + 2 = bit (m + top - n) t by have := hdj.out; omega]
        exact ⟨⟨t + 1, by omega, by simp, by rw [← hK.out]; congr 1; omega, HH.out.drew, (B.setCell (by simp; omega) _).drew⟩, by simp only [intOf]; omega⟩
      · have hneg : ¬ bit m t - bit n t - (c : Int) < 0 := by have := hdj.out; have := hd2.out; omega
        go_wp2
        (refine Flo.wp_region_auto (fun _ => True) Flo.rd (by kernel_rfl) (by decide +kernel) (trivial) ?_; repeat (first | (refine Flo.au_skip (by exact rfl) (by exact rfl) ?_; simp only [Act.put, List.setIfInBounds_toArray, List.set_cons_zero, List.set_cons_succ]) | (refine Flo.au_free (by exact rfl) (by exact rfl) (by exact rfl) ?_; intro K hK; go_big_quiet_op; go_big_quiet_on) | (refine Flo.au_still (by exact rfl) (by exact rfl) (by exact rfl) ?_; intro K hK; go_simp; refine hK _ ?_; clear hK K) | (refine Flo.au_move (by exact rfl) (by exact rfl) ?_; intro K hK; go_wp2_with (fail); try (with_reducible refine ⟨rfl, trivial, ?_⟩)) | (refine Flo.mix_nil ?_)))
        go_wp2
        rw [show bit m t - bit n t - (c : Int) = bit (m + top - n) t by have := hdj.out; omega]
        exact ⟨⟨t + 1, by omega, by simp, by rw [← hK.out]; congr 1; omega, HH.out.drew, (B.setCell (by simp; omega) _).drew⟩, by simp only [intOf]; omega⟩
    · obtain rfl : t = 256 := by omega
      have e : (rowI fun j => if j < 256 then bit (m + top - n) j else bit m j) = rowI (bit ((m + top - n) % top)) := rowI_congr fun j hj => by rw [if_pos hj, bit_top _ _ hj]
      have L : Locs wr ((x, rowI (bit ((m + top - n) % top)), 145) :: _) := e ▸ L
      have ec : ((carry (m + top - n) n 256 : Int) == 1) = decide (m < n) := by
        have e2 : carry (m + top - n) n 256 = if m < n then 1 else 0 := by
          unfold carry
          rw [← top_pow, Nat.mod_eq_of_lt hn]
          split
          · rw [Nat.mod_eq_of_lt (by omega), show m + top - n + n = m + top by omega, Nat.add_div_right _ (by omega), Nat.div_eq_of_lt hm]
          · rw [show m + top - n = (m - n) + top by omega, Nat.add_mod_right, Nat.mod_eq_of_lt (by omega), Nat.div_eq_of_lt (by omega)]
        rw [e2]
        by_cases h : m < n <;> simp [h]
      clear F e L1 hf0 HB
      rw [← hx, ← hy]
      clear hx hy
      go_wp2_with (first
        | (refine wl_load rfl 145 _ rfl bitsT rfl L.1 (rowI_size _) ?_)
        | (go_at_call 123; (with_reducible refine (number_c ((m + top - n) % top) (Nat.mod_lt _ (by omega)) _).mono ?_); rintro e w1 ⟨rfl, hb⟩; replace L := Locs.below (by (first | (with_reducible exact L) | (with_reducible exact Locs.push L) | (with_reducible exact Locs.push (Locs.push L)) | (with_reducible exact Locs.push (Locs.push (Locs.push L))) | (with_reducible exact Locs.push (Locs.push (Locs.push (Locs.push L)))) | (with_reducible exact Locs.drew L) | (with_reducible exact Locs.drew (Locs.push L)) | (with_reducible exact Locs.push (Locs.drew L)))) hb; (replace B := Flo.below_step (w := w0) (by repeat' (first | (with_reducible exact Below.refl _ _) | (with_reducible assumption) | (with_reducible refine Below.drew ?_) | (with_reducible refine Below.alloc ?_ ?_ _) | (with_reducible refine Below.setCell ?_ ?_ _) | (with_reducible refine Flo.below_step ?_ (by assumption)) | (simp; done) | (simp; omega))) hb); clear hb; (try clear F); (try clear Bz); (try simp only [World.size_alloc] at L); (try simp only [heap_drew] at L); have Bz := B.size; have F := Locs.facts L; simp only [LocFacts] at F))
      have hc := fun j => cell_of_row _ _ j _ _ _ (put4_same L.2.2.1 (.int .u64 (l0 ((m + top - n) % top))) (.int .u64 (l1 ((m + top - n) % top))) (.int .u64 (l2 ((m + top - n) % top))) (.int .u64 (l3 ((m + top - n) % top))))
      refine bodyPost_ret (v := .tuple #[uV ((m + top - n) % top), .bool (decide (m < n))]) (by simp [results, Try.results64, go_sem, hc]) rfl ⟨rfl, ?_⟩
      exact Below.put4 B (by omega) _ _ _ _
end Go.Proofs.Ytkgjgdeaclefiaa
