/-
  florinref01: digits, number.
-/
import Derived.Test.YtkgjgdeaclefiaaU256a
import Derived.Test.YtkgjgdeaclefiaaNum3
import Derived.Test.YtkgjgdeaclefiaaWhole
namespace Go.Proofs.Ytkgjgdeaclefiaa
open Go Go.Proofs Go.RowKit Go.Flo

/-- A row of 256 numbers. -/
@[irreducible] def rowI (f : Nat → Int) : Array Value := (Array.range 256).map fun i => .int .i64 (f i)
theorem rowI_size (f : Nat → Int) : (rowI f).size = 256 := by unfold rowI; simp
theorem rowI_get (f : Nat → Int) {i : Nat} (h : i < 256) : (rowI f)[i]? = some (.int .i64 (f i)) := by unfold rowI; simp [h]
theorem rowI_set (f : Nat → Int) (i : Nat) (x : Int) : (rowI f).setIfInBounds i (.int .i64 x) = rowI fun j => if j = i then x else f j := by
  unfold rowI
  apply Array.ext_getElem?
  intro j
  rw [Array.getElem?_setIfInBounds]
  simp only [Array.getElem?_map, Array.size_map, Array.size_range]
  by_cases h : i = j
  · subst h
    by_cases h' : i < 256 <;> simp [h']
  · have h'' : ¬ j = i := fun e => h e.symm
    by_cases h' : j < 256 <;> simp [h, h', h'']
theorem rowI_congr {f g : Nat → Int} (h : ∀ j, j < 256 → f j = g j) : rowI f = rowI g := by
  apply Array.ext_getElem?
  intro j
  by_cases hj : j < 256
  · rw [rowI_get f hj, rowI_get g hj, h j hj]
  · rw [Array.getElem?_eq_none (by rw [rowI_size]; omega), Array.getElem?_eq_none (by rw [rowI_size]; omega)]
theorem rowI_one (f : Nat → Int) : (rowI f).all (·.oneCell') = true := by
  unfold rowI
  rw [Array.all_eq_true]
  intro i hi
  simp [Value.oneCell']
/-- A number's digits of two. -/
def bit (m i : Nat) : Int := ((m / 2 ^ i % 2 : Nat) : Int)
theorem bitsT : Rowed Try.prog 145 3 256 := ⟨Try.underlying145, by kernel_rfl⟩
theorem bitsZ : (Try.prog.info? 145).map (fun i => i.zero) = some (some (.agg (rowI fun _ => 0))) := by
  unfold rowI
  kernel_rfl

theorem bit_small (m t : Nat) : 0 ≤ bit m t ∧ bit m t ≤ 1 := by unfold bit; omega
theorem word_mod (m q p : Nat) (hp : p < 64) : m / 2 ^ (64 * q) % 2 ^ 64 / 2 ^ p % 2 = m / 2 ^ (64 * q + p) % 2 := by
  rw [Nat.pow_add, ← Nat.div_div_eq_div_mul, ← Nat.toNat_testBit, ← Nat.toNat_testBit, Nat.testBit_mod_two_pow]
  simp [hp]
theorem word_bit (m q t : Nat) (hq : t / 64 = q) : wrap64 (bits .and .u64 (li q m / 2 ^ (t % 64)) 1) = bit m t := by
  have e : li q m / 2 ^ (t % 64) = ((m / 2 ^ (64 * q) % 2 ^ 64 / 2 ^ (t % 64) : Nat) : Int) := by
    unfold li
    rw [show ((2 : Int) ^ (t % 64)) = ((2 ^ (t % 64) : Nat) : Int) by simp]
    rfl
  have hlt : m / 2 ^ (64 * q) % 2 ^ 64 / 2 ^ (t % 64) < 18446744073709551616 := Nat.lt_of_le_of_lt (Nat.div_le_self _ _) (Nat.mod_lt _ (by decide))
  rw [e, show (1 : Int) = ((1 : Nat) : Int) from rfl, Go.u64_and_nat _ _ hlt (by decide), Nat.and_one_is_mod, word_mod m q (t % 64) (Nat.mod_lt _ (by decide)), show 64 * q + t % 64 = t by omega]
  unfold bit wrap64
  omega
theorem dig_next (m t : Nat) {w : World} {b0 b1 b2 : Nat} {T U : TypeId} {c0 c1 : Array Value} (h0 : b0 ≠ b2) (h1 : b1 ≠ b2) (h : Locs w [(b2, rowI fun j => if j < t then bit m j else 0, T), (b1, c1, T), (b0, c0, U)]) :
    Locs (w.setCell ⟨b2, t, none⟩ (.int .i64 (bit m t))) [(b2, rowI fun j => if j < t + 1 then bit m j else 0, T), (b1, c1, T), (b0, c0, U)] := by
  have := Locs.cell (j := t) (v := .int .i64 (bit m t)) h (by simp [h0, h1])
  rw [rowI_set] at this
  have e : (fun j => if j = t then bit m t else if j < t then bit m j else 0) = fun j => if j < t + 1 then bit m j else 0 := by
    funext j
    by_cases h : j = t
    · subst h; simp
    · by_cases h' : j < t
      · simp [h, h', Nat.lt_succ_of_lt h']
      · have : ¬ j < t + 1 := by omega
        simp [h, h', this]
  rw [e] at this
  exact this
theorem below_row {B : Nat} {a w : World} (h : Below B a w) {g : Nat} (hg : B ≤ g) (c : Array Value) : Below B a (w.setRow g c) :=
  ⟨h.os, h.tape, h.output, by simpa using h.size, fun k hk => (setRow_other w g k c (by omega)).trans (h.block k hk)⟩
structure DigR (m : Nat) (w0 : World) (i : Value) (wr : World) (t : Nat) : Prop where
  le : t ≤ 256
  at_ : i = .int .i64 (t : Int)
  locs : Locs wr [(w0.heap.size + 2, rowI fun j => if j < t then bit m j else 0, 145), (w0.heap.size + 1, rowI fun _ => 0, 145), (w0.heap.size, #[.int .u64 (l0 m), .int .u64 (l1 m), .int .u64 (l2 m), .int .u64 (l3 m)], 35)]
  below : Below w0.heap.size w0 wr

set_option maxRecDepth 100000 in
set_option maxHeartbeats 4000000 in
theorem digits_c (m : Nat) (w0 : World) :
    Calls Try.prog 122 #[uV m] w0 fun e w' => e = .returned (.agg (rowI (bit m))) ∧ Below w0.heap.size w0 w' := by
  have L := Locs.nil w0; have B := Below.refl w0.heap.size w0; have Bz := B.size; have F := Locs.facts L; simp only [LocFacts] at F
  go_enter Try.func122, Try.ntmps122
  go_wp2_with (first | (refine wl_alloc rfl 145 rfl bitsZ ?_))
  have L0 := Locs.push (Locs.push (Locs.push L (cs := #[.int .u64 (l0 m), .int .u64 (l1 m), .int .u64 (l2 m), .int .u64 (l3 m)]) (t := 35)) (cs := rowI fun _ => 0) (t := 145)) (cs := rowI fun _ => 0) (t := 145)
  simp only [World.size_alloc] at L0
  go_loopw [4] (fun i wr => ∃ t, DigR m w0 i wr t) (fun i _ => (256 - intOf i).toNat)
  case atStart => exact ⟨0, Nat.zero_le _, rfl, L0, (((Below.refl _ _).alloc (Nat.le_refl _) _).alloc (by simp) _).alloc (by simp; omega) _⟩
  case round =>
    clear L0 L B Bz F
    obtain ⟨t, le, rfl, L, B⟩ := hrel
    have Bz := B.size
    have F := Locs.facts L
    simp only [LocFacts] at F
    rcases Nat.lt_or_ge t 256 with hlt | hge
    · have hq : (t / 64 = 0 ∧ (t : Int) / 64 = 0) ∨ (t / 64 = 1 ∧ (t : Int) / 64 = 1) ∨ (t / 64 = 2 ∧ (t : Int) / 64 = 2) ∨ (t / 64 = 3 ∧ (t : Int) / 64 = 3) := by omega
      have hg : (rowI fun j => if j < t then bit m j else 0)[t]? = some (.int .i64 0) := by rw [rowI_get _ hlt, if_neg (Nat.lt_irrefl t)]
      have HL := Lib.hid L
      clear L
      rcases hq with ⟨hq, hqi⟩ | ⟨hq, hqi⟩ | ⟨hq, hqi⟩ | ⟨hq, hqi⟩
      all_goals
        have Hq := Lib.hid hq
        clear hq
        go_wp2
        have hq := Hq.out
        first | rw [l0_li, word_bit m 0 t hq] | rw [l1_li, word_bit m 1 t hq] | rw [l2_li, word_bit m 2 t hq] | rw [l3_li, word_bit m 3 t hq]
        exact ⟨⟨t + 1, by omega, by simp, dig_next m t (by omega) (by omega) HL.out, B.setCell (by simp; omega) _⟩, by simp only [intOf]; omega⟩
    · obtain rfl : t = 256 := by omega
      go_wp2_with (first | (refine wl_load rfl 145 _ rfl bitsT rfl L.1 (rowI_size _) ?_) | (refine wl_store rfl 145 _ _ rfl bitsT rfl rfl L.2.1 (rowI_size _) (rowI_size _) (rowI_one _) ?_))
      have e : (rowI fun j => if j < 256 then bit m j else 0) = rowI (bit m) := rowI_congr fun j hj => if_pos hj
      rw [e]
      refine bodyPost_ret (results_cell_row Try.results122 _ _ (w0.heap.size + 1) 145 (rowI (bit m)) (0, 0) _ rfl (setRow_heap wr _ _ _ _ _ L.2.1) bitsT.under rfl (by rw [rowI_size]; exact bitsT.size)) rfl ⟨rfl, ?_⟩
      exact below_row B (by omega) _

theorem mod_up (n t : Nat) : n % 2 ^ (t + 1) = if n / 2 ^ t % 2 = 1 then n % 2 ^ t ||| 2 ^ t else n % 2 ^ t := by
  have h := Nat.mod_pow_succ (b := 2) (k := t) (x := n)
  have hlt : n % 2 ^ t < 2 ^ t := Nat.mod_lt _ (Nat.two_pow_pos t)
  have hor : 2 ^ t * 1 + n % 2 ^ t = 2 ^ t * 1 ||| n % 2 ^ t := Nat.two_pow_add_eq_or_of_lt hlt 1
  split
  · rename_i hb
    rw [h, hb, Nat.or_comm, Nat.add_comm]
    rw [Nat.mul_one] at hor
    rw [Nat.mul_one]
    exact hor
  · have : n / 2 ^ t % 2 = 0 := by omega
    rw [h, this]
    omega
theorem num_word (n t q : Nat) (hq : t / 64 = q) : bits .or .u64 (li q (n % 2 ^ t)) (IntKind.u64.wrap (bit n t * 2 ^ min (t % 64) 64)) = li q (n % 2 ^ (t + 1)) := by
  have hp : min (t % 64) 64 = t % 64 := by omega
  rw [hp, mod_up]
  split
  · rename_i hb
    have e : bit n t = 1 := by unfold bit; rw [hb]; rfl
    rw [e, Int.one_mul]
    exact or_bit (n % 2 ^ t) t q (t % 64) (by omega)
  · rename_i hb
    have e : bit n t = 0 := by unfold bit; omega
    rw [e, Int.zero_mul]
    have z : IntKind.u64.wrap 0 = ((0 : Nat) : Int) := rfl
    rw [z]
    unfold li
    rw [or_cast _ _ (pow64 _) (by decide), Nat.or_zero]
theorem num_other (n t q i : Nat) (hq : t / 64 = q) (hi : i ≠ q) : li i (n % 2 ^ (t + 1)) = li i (n % 2 ^ t) := by
  rw [mod_up]
  split
  · exact or_bit_ne (n % 2 ^ t) t i q (t % 64) (by omega) (Nat.mod_lt _ (by decide)) hi
  · rfl
theorem num_next (n t q : Nat) (hq : t / 64 = q) (h3 : q ≤ 3) {w : World} {b0 b1 b2 : Nat} {T U : TypeId} {c0 c1 : Array Value} (h0 : b0 ≠ b2) (h1 : b1 ≠ b2)
    (h : Locs w [(b2, #[.int .u64 (li 0 (n % 2 ^ t)), .int .u64 (li 1 (n % 2 ^ t)), .int .u64 (li 2 (n % 2 ^ t)), .int .u64 (li 3 (n % 2 ^ t))], U), (b1, c1, U), (b0, c0, T)]) :
    Locs (w.setCell ⟨b2, q, none⟩ (.int .u64 (bits .or .u64 (li q (n % 2 ^ t)) (IntKind.u64.wrap (bit n t * 2 ^ min (t % 64) 64)))))
      [(b2, #[.int .u64 (li 0 (n % 2 ^ (t + 1))), .int .u64 (li 1 (n % 2 ^ (t + 1))), .int .u64 (li 2 (n % 2 ^ (t + 1))), .int .u64 (li 3 (n % 2 ^ (t + 1)))], U), (b1, c1, U), (b0, c0, T)] := by
  have := Locs.cell (j := q) (v := .int .u64 (bits .or .u64 (li q (n % 2 ^ t)) (IntKind.u64.wrap (bit n t * 2 ^ min (t % 64) 64)))) h (by simp [h0, h1])
  rw [num_word n t q hq] at this ⊢
  match q, h3 with
  | 0, _ => rw [num_other n t 0 1 hq (by decide), num_other n t 0 2 hq (by decide), num_other n t 0 3 hq (by decide)]; exact this
  | 1, _ => rw [num_other n t 1 0 hq (by decide), num_other n t 1 2 hq (by decide), num_other n t 1 3 hq (by decide)]; exact this
  | 2, _ => rw [num_other n t 2 0 hq (by decide), num_other n t 2 1 hq (by decide), num_other n t 2 3 hq (by decide)]; exact this
  | 3, _ => rw [num_other n t 3 0 hq (by decide), num_other n t 3 1 hq (by decide), num_other n t 3 2 hq (by decide)]; exact this

structure NumR (n : Nat) (w0 : World) (i : Value) (wr : World) (t : Nat) : Prop where
  le : t ≤ 256
  at_ : i = .int .i64 (t : Int)
  locs : Locs wr [(w0.heap.size + 2, #[.int .u64 (l0 (n % 2 ^ t)), .int .u64 (l1 (n % 2 ^ t)), .int .u64 (l2 (n % 2 ^ t)), .int .u64 (l3 (n % 2 ^ t))], 35), (w0.heap.size + 1, #[.int .u64 0, .int .u64 0, .int .u64 0, .int .u64 0], 35), (w0.heap.size, rowI (bit n), 145)]
  below : Below w0.heap.size w0 wr

set_option maxRecDepth 100000 in
set_option maxHeartbeats 4000000 in
theorem number_c (n : Nat) (hn : n < top) (w0 : World) :
    Calls Try.prog 123 #[.agg (rowI (bit n))] w0 fun e w' => e = .returned (uV n) ∧ Below w0.heap.size w0 w' := by
  have L := Locs.nil w0; have B := Below.refl w0.heap.size w0; have Bz := B.size; have F := Locs.facts L; simp only [LocFacts] at F
  go_enter Try.func123, Try.ntmps123
  go_wp2_with (first | (refine wl_box rfl 145 _ rfl rfl ?_))
  have L0 := Locs.push (Locs.push (Locs.push L (cs := rowI (bit n)) (t := 145)) (cs := #[.int .u64 0, .int .u64 0, .int .u64 0, .int .u64 0]) (t := 35)) (cs := #[.int .u64 0, .int .u64 0, .int .u64 0, .int .u64 0]) (t := 35)
  simp only [World.size_alloc] at L0
  have z0 : ∀ n, l0 (n % 2 ^ 0) = 0 ∧ l1 (n % 2 ^ 0) = 0 ∧ l2 (n % 2 ^ 0) = 0 ∧ l3 (n % 2 ^ 0) = 0 := fun n => by
    rw [Nat.pow_zero, Nat.mod_one]
    unfold l0 l1 l2 l3
    exact ⟨rfl, rfl, rfl, rfl⟩
  go_loopw [4] (fun i wr => ∃ t, NumR n w0 i wr t) (fun i _ => (256 - intOf i).toNat)
  case atStart => exact ⟨0, Nat.zero_le _, rfl, by rw [(z0 n).1, (z0 n).2.1, (z0 n).2.2.1, (z0 n).2.2.2]; exact L0, (((Below.refl _ _).alloc (Nat.le_refl _) _).alloc (by simp) _).alloc (by simp; omega) _⟩
  case round =>
    clear L0 L B Bz F z0
    obtain ⟨t, le, rfl, L, B⟩ := hrel
    have Bz := B.size
    have F := Locs.facts L
    simp only [LocFacts] at F
    rcases Nat.lt_or_ge t 256 with hlt | hge
    · have hq : (t / 64 = 0 ∧ (t : Int) / 64 = 0) ∨ (t / 64 = 1 ∧ (t : Int) / 64 = 1) ∨ (t / 64 = 2 ∧ (t : Int) / 64 = 2) ∨ (t / 64 = 3 ∧ (t : Int) / 64 = 3) := by omega
      have hg : (rowI (bit n))[t]? = some (.int .i64 (bit n t)) := rowI_get _ hlt
      have hb := bit_small n t
      have HL := Lib.hid L
      clear L
      rcases hq with ⟨hq, hqi⟩ | ⟨hq, hqi⟩ | ⟨hq, hqi⟩ | ⟨hq, hqi⟩
      · have Hq := Lib.hid hq
        clear hq
        go_wp2
        (refine Flo.wp_region_auto (fun _ => True) Flo.rd (by kernel_rfl) (by decide +kernel) (trivial) ?_; repeat (first | (refine Flo.au_skip (by exact rfl) (by exact rfl) ?_; simp only [Act.put, List.setIfInBounds_toArray, List.set_cons_zero, List.set_cons_succ]) | (refine Flo.au_free (by exact rfl) (by exact rfl) (by exact rfl) ?_; intro K hK; go_big_quiet_op; go_big_quiet_on) | (refine Flo.au_still (by exact rfl) (by exact rfl) (by exact rfl) ?_; intro K hK; go_simp; refine hK _ ?_; clear hK K) | (refine Flo.au_move (by exact rfl) (by exact rfl) ?_; intro K hK; go_wp2_with (fail); try (with_reducible refine ⟨rfl, trivial, ?_⟩)) | (refine Flo.mix_nil ?_)))
        go_wp2
        have H := num_next n t 0 Hq.out (by decide) (b0 := w0.heap.size) (b1 := w0.heap.size + 1) (b2 := w0.heap.size + 2) (by omega) (by omega) (by rw [← l0_li, ← l1_li, ← l2_li, ← l3_li]; exact HL.out)
        rw [← l0_li, ← l0_li, ← l1_li, ← l2_li, ← l3_li] at H
        exact ⟨⟨t + 1, by omega, by simp, H.drew, (B.setCell (by simp; omega) _).drew⟩, by simp only [intOf]; omega⟩
      · have Hq := Lib.hid hq
        clear hq
        go_wp2
        (refine Flo.wp_region_auto (fun _ => True) Flo.rd (by kernel_rfl) (by decide +kernel) (trivial) ?_; repeat (first | (refine Flo.au_skip (by exact rfl) (by exact rfl) ?_; simp only [Act.put, List.setIfInBounds_toArray, List.set_cons_zero, List.set_cons_succ]) | (refine Flo.au_free (by exact rfl) (by exact rfl) (by exact rfl) ?_; intro K hK; go_big_quiet_op; go_big_quiet_on) | (refine Flo.au_still (by exact rfl) (by exact rfl) (by exact rfl) ?_; intro K hK; go_simp; refine hK _ ?_; clear hK K) | (refine Flo.au_move (by exact rfl) (by exact rfl) ?_; intro K hK; go_wp2_with (fail); try (with_reducible refine ⟨rfl, trivial, ?_⟩)) | (refine Flo.mix_nil ?_)))
        go_wp2
        have H := num_next n t 1 Hq.out (by decide) (b0 := w0.heap.size) (b1 := w0.heap.size + 1) (b2 := w0.heap.size + 2) (by omega) (by omega) (by rw [← l0_li, ← l1_li, ← l2_li, ← l3_li]; exact HL.out)
        rw [← l1_li, ← l0_li, ← l1_li, ← l2_li, ← l3_li] at H
        exact ⟨⟨t + 1, by omega, by simp, H.drew, (B.setCell (by simp; omega) _).drew⟩, by simp only [intOf]; omega⟩
      · have Hq := Lib.hid hq
        clear hq
        go_wp2
        (refine Flo.wp_region_auto (fun _ => True) Flo.rd (by kernel_rfl) (by decide +kernel) (trivial) ?_; repeat (first | (refine Flo.au_skip (by exact rfl) (by exact rfl) ?_; simp only [Act.put, List.setIfInBounds_toArray, List.set_cons_zero, List.set_cons_succ]) | (refine Flo.au_free (by exact rfl) (by exact rfl) (by exact rfl) ?_; intro K hK; go_big_quiet_op; go_big_quiet_on) | (refine Flo.au_still (by exact rfl) (by exact rfl) (by exact rfl) ?_; intro K hK; go_simp; refine hK _ ?_; clear hK K) | (refine Flo.au_move (by exact rfl) (by exact rfl) ?_; intro K hK; go_wp2_with (fail); try (with_reducible refine ⟨rfl, trivial, ?_⟩)) | (refine Flo.mix_nil ?_)))
        go_wp2
        have H := num_next n t 2 Hq.out (by decide) (b0 := w0.heap.size) (b1 := w0.heap.size + 1) (b2 := w0.heap.size + 2) (by omega) (by omega) (by rw [← l0_li, ← l1_li, ← l2_li, ← l3_li]; exact HL.out)
        rw [← l2_li, ← l0_li, ← l1_li, ← l2_li, ← l3_li] at H
        exact ⟨⟨t + 1, by omega, by simp, H.drew, (B.setCell (by simp; omega) _).drew⟩, by simp only [intOf]; omega⟩
      · have Hq := Lib.hid hq
        clear hq
        go_wp2
        (refine Flo.wp_region_auto (fun _ => True) Flo.rd (by kernel_rfl) (by decide +kernel) (trivial) ?_; repeat (first | (refine Flo.au_skip (by exact rfl) (by exact rfl) ?_; simp only [Act.put, List.setIfInBounds_toArray, List.set_cons_zero, List.set_cons_succ]) | (refine Flo.au_free (by exact rfl) (by exact rfl) (by exact rfl) ?_; intro K hK; go_big_quiet_op; go_big_quiet_on) | (refine Flo.au_still (by exact rfl) (by exact rfl) (by exact rfl) ?_; intro K hK; go_simp; refine hK _ ?_; clear hK K) | (refine Flo.au_move (by exact rfl) (by exact rfl) ?_; intro K hK; go_wp2_with (fail); try (with_reducible refine ⟨rfl, trivial, ?_⟩)) | (refine Flo.mix_nil ?_)))
        go_wp2
        have H := num_next n t 3 Hq.out (by decide) (b0 := w0.heap.size) (b1 := w0.heap.size + 1) (b2 := w0.heap.size + 2) (by omega) (by omega) (by rw [← l0_li, ← l1_li, ← l2_li, ← l3_li]; exact HL.out)
        rw [← l3_li, ← l0_li, ← l1_li, ← l2_li, ← l3_li] at H
        exact ⟨⟨t + 1, by omega, by simp, H.drew, (B.setCell (by simp; omega) _).drew⟩, by simp only [intOf]; omega⟩
    · obtain rfl : t = 256 := by omega
      rw [show n % 2 ^ 256 = n by rw [← top_pow]; exact Nat.mod_eq_of_lt hn] at L F
      go_wp2
      refine bodyPost_ret (results_cell_row Try.results123 _ _ (w0.heap.size + 1) 35 _ (0, 0) _ rfl (put4_same L.2.1 _ _ _ _) Try.underlying35 rfl (by kernel_rfl)) rfl ⟨rfl, ?_⟩
      exact Below.put4 B (by omega) _ _ _ _
end Go.Proofs.Ytkgjgdeaclefiaa
