import Derived.Test.YtkgjgdeaclefiaaUa
import Derived.Test.YtkgjgdeaclefiaaLx
import Derived.Deep.WholeRow
import Derived.Test.YtkgjgdeaclefiaaNb

/-! florinref01: digits, number. -/
namespace Go.Proofs.Ytkgjgdeaclefiaa
open Go Go.Proofs Go.RowKit Go.Flo

/-- A row of 256 numbers. -/
@[irreducible] def rowI (f : Nat → Int) : Array Value := (Array.range 256).map fun i => .int .i64 (f i)
theorem rowI_size (f : Nat → Int) : (rowI f).size = 256 := by unfold rowI; simp
theorem rowI_get (f : Nat → Int) {i : Nat} (h : i < 256) : (rowI f)[i]? = some (.int .i64 (f i)) := by unfold rowI; simp [h]
theorem rowI_set (f : Nat → Int) (i : Nat) (x : Int) : (rowI f).setIfInBounds i (.int .i64 x) = rowI fun j => if j = i then x else f j := by
  unfold rowI
  apply Array.ext_getElem?
  intro j
  rw [Array.getElem?_setIfInBounds]
  simp only [Array.getElem?_map, Array.size_map, Array.size_range]
  by_cases h : i = j
  · subst h
    by_cases h' : i < 256 <;> simp [h']
  · have h'' : ¬ j = i := fun e => h e.symm
    by_cases h' : j < 256 <;> simp [h, h', h'']
theorem rowI_congr {f g : Nat → Int} (h : ∀ j, j < 256 → f j = g j) : rowI f = rowI g := by
  apply Array.ext_getElem?
  intro j
  by_cases hj : j < 256
  · rw [rowI_get f hj, rowI_get g hj, h j hj]
  · rw [Array.getElem?_eq_none (by rw [rowI_size]; omega), Array.getElem?_eq_none (by rw [rowI_size]; omega)]
theorem rowI_one (f : Nat → Int) : (rowI f).all (·.oneCell') = true := by
  unfold rowI
  rw [Array.all_eq_true]
  intro i hi
  simp [Value.oneCell']
/-- A number's digits of two. -/
def bit (m i : Nat) : Int := ((m / 2 ^ i % 2 : Nat) : Int)
theorem bitsT : Rowed Try.prog 145 3 256 := ⟨Try.underlying145, by kernel_rfl⟩
theorem bitsZ : (Try.prog.info? 145).map (fun i => i.zero) = some (some (.agg (rowI fun _ => 0))) := by
  unfold rowI
  kernel_rfl

theorem bit_small (m t : Nat) : 0 ≤ bit m t ∧ bit m t ≤ 1 := by unfold bit; omega
theorem word_mod (m q p : Nat) (hp : p < 64) : m / 2 ^ (64 * q) % 2 ^ 64 / 2 ^ p % 2 = m / 2 ^ (64 * q + p) % 2 := by
  rw [Nat.pow_add, ← Nat.div_div_eq_div_mul, ← Nat.toNat_testBit, ← Nat.toNat_testBit, Nat.testBit_mod_two_pow]
  simp [hp]
theorem word_bit (m q t : Nat) (hq : t / 64 = q) : wrap64 (bits .and .u64 (li q m / 2 ^ (t % 64)) 1) = bit m t := by
  have e : li q m / 2 ^ (t % 64) = ((m / 2 ^ (64 * q) % 2 ^ 64 / 2 ^ (t % 64) : Nat) : Int) := by
    unfold li
    rw [show ((2 : Int) ^ (t % 64)) = ((2 ^ (t % 64) : Nat) : Int) by simp]
    rfl
  have hlt : m / 2 ^ (64 * q) % 2 ^ 64 / 2 ^ (t % 64) < 18446744073709551616 := Nat.lt_of_le_of_lt (Nat.div_le_self _ _) (Nat.mod_lt _ (by decide))
  rw [e, show (1 : Int) = ((1 : Nat) : Int) from rfl, Go.u64_and_nat _ _ hlt (by decide), Nat.and_one_is_mod, word_mod m q (t % 64) (Nat.mod_lt _ (by decide)), show 64 * q + t % 64 = t by omega]
  unfold bit wrap64
  omega
theorem dig_next (m t : Nat) {w : World} {b0 b1 b2 : Nat} {T U : TypeId} {c0 c1 : Array Value} (h0 : b0 ≠ b2) (h1 : b1 ≠ b2) (h : Locs w [(b2, rowI fun j => if j < t then bit m j else 0, T), (b1, c1, T), (b0, c0, U)]) :
    Locs (w.setCell ⟨b2, t, none⟩ (.int .i64 (bit m t))) [(b2, rowI fun j => if j < t + 1 then bit m j else 0, T), (b1, c1, T), (b0, c0, U)] := by
  have := Locs.cell (j := t) (v := .int .i64 (bit m t)) h (by simp [h0, h1])
  rw [rowI_set] at this
  have e : (fun j => if j = t then bit m t else if j < t then bit m j else 0) = fun j => if j < t + 1 then bit m j else 0 := by
    funext j
    by_cases h : j = t
    · subst h; simp
    · by_cases h' : j < t
      · simp [h, h', Nat.lt_succ_of_lt h']
      · have : ¬ j < t + 1 := by omega
        simp [h, h', this]
  rw [e] at this
  exact this
theorem below_row {B : Nat} {a w : World} (h : Below B a w) {g : Nat} (hg : B ≤ g) (c : Array Value) : Below B a (w.setRow g c) :=
  ⟨h.os, h.tape, h.output, by simpa using h.size, fun k hk => (setRow_other w g k c (by omega)).trans (h.block k hk)⟩
structure DigR (m : Nat) (w0 : World) (i : Value) (wr : World) (t : Nat) : Prop where
  le : t ≤ 256
  at_ : i = .int .i64 (t : Int)
  locs : Locs wr [(w0.heap.size + 2, rowI fun j => if j < t then bit m j else 0, 145), (w0.heap.size + 1, rowI fun _ => 0, 145), (w0.heap.size, #[.int .u64 (l0 m), .int .u64 (l1 m), .int .u64 (l2 m), .int .u64 (l3 m)], 35)]
  below : Below w0.heap.size w0 wr

set_option maxRecDepth 100000 in
set_option maxHeartbeats 4000000 in
theorem digits_c (m : Nat) (w0 : World) :
    Calls Try.prog 122 #[uV m] w0 fun e w' => e = .returned (.agg (rowI (bit m))) ∧ Below w0.heap.size w0 w' := by
  have L := Locs.nil w0; have B := Below.refl w0.heap.size w0; have Bz := B.size; have F := Locs.facts L; simp only [LocFacts] at F
  go_enter Try.func122, Try.ntmps122
  go_wp2_with (first | (refine wl_alloc rfl 145 rfl bitsZ ?_))
  have L0 := Locs.push (Locs.push (Locs.push L (cs := #[.int .u64 (l0 m), .int .u64 (l1 m), .int .u64 (l2 m), .int .u64 (l3 m)]) (t := 35)) (cs := rowI fun _ => 0) (t := 145)) (cs := rowI fun _ => 0) (t := 145)
  simp only [World.size_alloc] at L0
  go_loopw [4] (fun i wr => ∃ t, DigR m w0 i wr t) (fun i _ => (256 - intOf i).toNat)
  case atStart => exact ⟨0, Nat.zero_le _, rfl, L0, (((Below.refl _ _).alloc (Nat.le_refl _) _).alloc (by simp) _).alloc (by simp; omega) _⟩
  case round =>
    clear L0 L B Bz F
    obtain ⟨t, le, rfl, L, B⟩ := hrel
    have Bz := B.size
    have F := Locs.facts L
    simp only [LocFacts] at F
    rcases Nat.lt_or_ge t 256 with hlt | hge
    · have hq : (t / 64 = 0 ∧ (t : Int) / 64 = 0) ∨ (t / 64 = 1 ∧ (t : Int) / 64 = 1) ∨ (t / 64 = 2 ∧ (t : Int) / 64 = 2) ∨ (t / 64 = 3 ∧ (t : Int) / 64 = 3) := by omega
      have hg : (rowI fun j => if j < t then bit m j else 0)[t]? = some (.int .i64 0) := by rw [rowI_get _ hlt, if_neg (Nat.lt_irrefl t)]
      have HL := Lib.hid L
      clear L
      rcases hq with ⟨hq, hqi⟩ | ⟨hq, hqi⟩ | ⟨hq, hqi⟩ | ⟨hq, hqi⟩
      all_goals
        have Hq := Lib.hid hq
        clear hq
        go_wp2
        have hq := Hq.out
        first | rw [l0_li, word_bit m 0 t hq] | rw [l1_li, word_bit m 1 t hq] | rw [l2_li, word_bit m 2 t hq] | rw [l3_li, word_bit m 3 t hq]
        exact ⟨⟨t + 1, by omega, by simp, dig_next m t (by omega) (by omega) HL.out, B.setCell (by simp; omega) _⟩, by simp only [intOf]; omega⟩
    · obtain rfl : t = 256 := by omega
      go_wp2_with (first | (refine wl_load rfl 145 _ rfl bitsT rfl L.1 (rowI_size _) ?_) | (refine wl_store rfl 145 _ _ rfl bitsT rfl rfl L.2.1 (rowI_size _) (rowI_size _) (rowI_one _) ?_))
      have e : (rowI fun j => if j < 256 then bit m j else 0) = rowI (bit m) := rowI_congr fun j hj => if_pos hj
      rw [e]
      refine bodyPost_ret (results_cell_row Try.results122 _ _ (w0.heap.size + 1) 145 (rowI (bit m)) (0, 0) _ rfl (setRow_heap wr _ _ _ _ _ L.2.1) bitsT.under rfl (by rw [rowI_size]; exact bitsT.size)) rfl ⟨rfl, ?_⟩
      exact below_row B (by omega) _

theorem mod_up (n t : Nat) : n % 2 ^ (t + 1) = if n / 2 ^ t % 2 = 1 then n % 2 ^ t ||| 2 ^ t else n % 2 ^ t := by
  have h := Nat.mod_pow_succ (b := 2) (k := t) (x := n)
  have hlt : n % 2 ^ t < 2 ^ t := Nat.mod_lt _ (Nat.two_pow_pos t)
  have hor : 2 ^ t * 1 + n % 2 ^ t = 2 ^ t * 1 ||| n % 2 ^ t := Nat.two_pow_add_eq_or_of_lt hlt 1
  split
  · rename_i hb
    rw [h, hb, Nat.or_comm, Nat.add_comm]
    rw [Nat.mul_one] at hor
    rw [Nat.mul_one]
    exact hor
  · have : n / 2 ^ t % 2 = 0 := by omega
    rw [h, this]
    omega
theorem num_word (n t q : Nat) (hq : t / 64 = q) : bits .or .u64 (li q (n % 2 ^ t)) (IntKind.u64.wrap (bit n t * 2 ^ min (t % 64) 64)) = li q (n % 2 ^ (t + 1)) := by
  have hp : min (t % 64) 64 = t % 64 := by omega
  rw [hp, mod_up]
  split
  · rename_i hb
    have e : bit n t = 1 := by unfold bit; rw [hb]; rfl
    rw [e, Int.one_mul]
    exact or_bit (n % 2 ^ t) t q (t % 64) (by omega)
  · rename_i hb
    have e : bit n t = 0 := by unfold bit; omega
    rw [e, Int.zero_mul]
    have z : IntKind.u64.wrap 0 = ((0 : Nat) : Int) := rfl
    rw [z]
    unfold li
    rw [or_cast _ _ (pow64 _) (by decide), Nat.or_zero]
theorem num_other (n t q i : Nat) (hq : t / 64 = q) (hi : i ≠ q) : li i (n % 2 ^ (t + 1)) = li i (n % 2 ^ t) := by
  rw [mod_up]
  split
  · exact or_bit_ne (n % 2 ^ t) t i q (t % 64) (by omega) (Nat.mod_lt _ (by decide)) hi
  · rfl
theorem num_next (n t q : Nat) (hq : t / 64 = q) (h3 : q ≤ 3) {w : World} {b0 b1 b2 : Nat} {T U : TypeId} {c0 c1 : Array Value} (h0 : b0 ≠ b2) (h1 : b1 ≠ b2)
    (h : Locs w [(b2, #[.int .u64 (li 0 (n % 2 ^ t)), .int .u64 (li 1 (n % 2 ^ t)), .int .u64 (li 2 (n % 2 ^ t)), .int .u64 (li 3 (n % 2 ^ t))], U), (b1, c1, U), (b0, c0, T)]) :
    Locs (w.setCell ⟨b2, q, none⟩ (.int .u64 (bits .or .u64 (li q (n % 2 ^ t)) (IntKind.u64.wrap (bit n t * 2 ^ min (t % 64) 64)))))
      [(b2, #[.int .u64 (li 0 (n % 2 ^ (t + 1))), .int .u64 (li 1 (n % 2 ^ (t + 1))), .int .u64 (li 2 (n % 2 ^ (t + 1))), .int .u64 (li 3 (n % 2 ^ (t + 1)))], U), (b1, c1, U), (b0, c0, T)] := by
  have := Locs.cell (j := q) (v := .int .u64 (bits .or .u64 (li q (n % 2 ^ t)) (IntKind.u64.wrap (bit n t * 2 ^ min (t % 64) 64)))) h (by simp [h0, h1])
  rw [num_word n t q hq] at this ⊢
  match q, h3 with
  | 0, _ => rw [num_other n t 0 1 hq (by decide), num_other n t 0 2 hq (by decide), num_other n t 0 3 hq (by decide)]; exact this
  | 1, _ => rw [num_other n t 1 0 hq (by decide), num_other n t 1 2 hq (by decide), num_other n t 1 3 hq (by decide)]; exact this
  | 2, _ => rw [num_other n t 2 0 hq (by decide), num_other n t 2 1 hq (by decide), num_other n t 2 3 hq (by decide)]; exact this
  | 3, _ => rw [num_other n t 3 0 hq (by decide), num_other n t 3 1 hq (by decide), num_other n t 3 2 hq (by decide)]; exact this

structure NumR (n : Nat) (w0 : World) (i : Value) (wr : World) (t : Nat) : Prop where
  le : t ≤ 256
  at_ : i = .int .i64 (t : Int)
  locs : Locs wr [(w0.heap.size + 2, #[.int .u64 (l0 (n % 2 ^ t)), .int .u64 (l1 (n % 2 ^ t)), .int .u64 (l2 (n % 2 ^ t)), .int .u64 (l3 (n % 2 ^ t))], 35), (w0.heap.size + 1, #[.int .u64 0, .int .u64 0, .int .u64 0, .int .u64 0], 35), (w0.heap.size, rowI (bit n), 145)]
  below : Below w0.heap.size w0 wr

set_option maxRecDepth 100000 in
set_option maxHeartbeats 4000000 in
theorem number_c (n : Nat) (hn : n < top) (w0 : World) :
    Calls Try.prog 123 #[.agg (rowI (bit n))] w0 fun e w' => e = .returned (uV n) ∧ Below w0.heap.size w0 w' := by
  have L := Locs.nil w0; have B := Below.refl w0.heap.size w0; have Bz := B.size; have F := Locs.facts L; simp only [LocFacts] at F
  go_enter Try.func123, Try.ntmps123
  go_wp2_with (first | (refine wl_box rfl 145 _ rfl rfl ?_))
  have L0 := Locs.push (Locs.push (Locs.push L (cs := rowI (bit n)) (t := 145)) (cs := #[.int .u64 0, .int .u64 0, .int .u64 0, .int .u64 0]) (t := 35)) (cs := #[.int .u64 0, .int .u64 0, .int .u64 0, .int .u64 0]) (t := 35)
  simp only [World.size_alloc] at L0
  have z0 : ∀ n, l0 (n % 2 ^ 0) = 0 ∧ l1 (n % 2 ^ 0) = 0 ∧ l2 (n % 2 ^ 0) = 0 ∧ l3 (n % 2 ^ 0) = 0 := fun n => by
    rw [Nat.pow_zero, Nat.mod_one]
    unfold l0 l1 l2 l3
    exact ⟨rfl, rfl, rfl, rfl⟩
  go_loopw [4] (fun i wr => ∃ t, NumR n w0 i wr t) (fun i _ => (256 - intOf i).toNat)
  case atStart => exact ⟨0, Nat.zero_le _, rfl, by rw [(z0 n).1, (z0 n).2.1, (z0 n).2.2.1, (z0 n).2.2.2]; exact L0, (((Below.refl _ _).alloc (Nat.le_refl _) _).alloc (by simp) _).alloc (by simp; omega) _⟩
  case round =>
    clear L0 L B Bz F z0
    obtain ⟨t, le, rfl, L, B⟩ := hrel
    have Bz := B.size
    have F := Locs.facts L
    simp only [LocFacts] at F
    rcases Nat.lt_or_ge t 256 with hlt | hge
    · have hq : (t / 64 = 0 ∧ (t : Int) / 64 = 0) ∨ (t / 64 = 1 ∧ (t : Int) / 64 = 1) ∨ (t / 64 = 2 ∧ (t : Int) / 64 = 2) ∨ (t / 64 = 3 ∧ (t : Int) / 64 = 3) := by omega
      have hg : (rowI (bit n))[t]? = some (.int .i64 (bit n t)) := rowI_get _ hlt
      have hb := bit_small n t
      have HL := Lib.hid L
      clear L
      rcases hq with ⟨hq, hqi⟩ | ⟨hq, hqi⟩ | ⟨hq, hqi⟩ | ⟨hq, hqi⟩
      · have Hq := Lib.hid hq
        clear hq
        go_wp2
        (refine Flo.wp_region_auto (fun _ => True) Flo.rd (by kernel_rfl) (by decide +kernel) (trivial) ?_; repeat (first | (refine Flo.au_skip (by exact rfl) (by exact rfl) ?_; simp only [Act.put, List.setIfInBounds_toArray, List.set_cons_zero, List.set_cons_succ]) | (refine Flo.au_free (by exact rfl) (by exact rfl) (by exact rfl) ?_; intro K hK; go_big_quiet_op; go_big_quiet_on) | (refine Flo.au_still (by exact rfl) (by exact rfl) (by exact rfl) ?_; intro K hK; go_simp; refine hK _ ?_; clear hK K) | (refine Flo.au_move (by exact rfl) (by exact rfl) ?_; intro K hK; go_wp2_with (fail); try (with_reducible refine ⟨rfl, trivial, ?_⟩)) | (refine Flo.mix_nil ?_)))
        go_wp2
        have H := num_next n t 0 Hq.out (by decide) (b0 := w0.heap.size) (b1 := w0.heap.size + 1) (b2 := w0.heap.size + 2) (by omega) (by omega) (by rw [← l0_li, ← l1_li, ← l2_li, ← l3_li]; exact HL.out)
        rw [← l0_li, ← l0_li, ← l1_li, ← l2_li, ← l3_li] at H
        exact ⟨⟨t + 1, by omega, by simp, H.drew, (B.setCell (by simp; omega) _).drew⟩, by simp only [intOf]; omega⟩
      · have Hq := Lib.hid hq
        clear hq
        go_wp2
        (refine Flo.wp_region_auto (fun _ => True) Flo.rd (by kernel_rfl) (by decide +kernel) (trivial) ?_; repeat (first | (refine Flo.au_skip (by exact rfl) (by exact rfl) ?_; simp only [Act.put, List.setIfInBounds_toArray, List.set_cons_zero, List.set_cons_succ]) | (refine Flo.au_free (by exact rfl) (by exact rfl) (by exact rfl) ?_; intro K hK; go_big_quiet_op; go_big_quiet_on) | (refine Flo.au_still (by exact rfl) (by exact rfl) (by exact rfl) ?_; intro K hK; go_simp; refine hK _ ?_; clear hK K) | (refine Flo.au_move (by exact rfl) (by exact rfl) ?_; intro K hK; go_wp2_with (fail); try (with_reducible refine ⟨rfl, trivial, ?_⟩)) | (refine Flo.mix_nil ?_)))
        go_wp2
        have H := num_next n t 1 Hq.out (by decide) (b0 := w0.heap.size) (b1 := w0.heap.size + 1) (b2 := w0.heap.size + 2) (by omega) (by omega) (by rw [← l0_li, ← l1_li, ← l2_li, ← l3_li]; exact HL.out)
        rw [← l1_li, ← l0_li, ← l1_li, ← l2_li, ← l3_li] at H
        exact ⟨⟨t + 1, by omega, by simp, H.drew, (B.setCell (by simp; omega) _).drew⟩, by simp only [intOf]; omega⟩
      · have Hq := Lib.hid hq
        clear hq
        go_wp2
        (refine Flo.wp_region_auto (fun _ => True) Flo.rd (by kernel_rfl) (by decide +kernel) (trivial) ?_; repeat (first | (refine Flo.au_skip (by exact rfl) (by exact rfl) ?_; simp only [Act.put, List.setIfInBounds_toArray, List.set_cons_zero, List.set_cons_succ]) | (refine Flo.au_free (by exact rfl) (by exact rfl) (by exact rfl) ?_; intro K hK; go_big_quiet_op; go_big_quiet_on) | (refine Flo.au_still (by exact rfl) (by exact rfl) (by exact rfl) ?_; intro K hK; go_simp; refine hK _ ?_; clear hK K) | (refine Flo.au_move (by exact rfl) (by exact rfl) ?_; intro K hK; go_wp2_with (fail); try (with_reducible refine ⟨rfl, trivial, ?_⟩)) | (refine Flo.mix_nil ?_)))
        go_wp2
        have H := num_next n t 2 Hq.out (by decide) (b0 := w0.heap.size) (b1 := w0.heap.size + 1) (b2 := w0.heap.size + 2) (by omega) (by omega) (by rw [← l0_li, ← l1_li, ← l2_li, ← l3_li]; exact HL.out)
        rw [← l2_li, ← l0_li, ← l1_li, ← l2_li, ← l3_li] at H
        exact ⟨⟨t + 1, by omega, by simp, H.drew, (B.setCell (by simp; omega) _).drew⟩, by simp only [intOf]; omega⟩
      · have Hq := Lib.hid hq
        clear hq
        go_wp2
        (refine Flo.wp_region_auto (fun _ => True) Flo.rd (by kernel_rfl) (by decide +kernel) (trivial) ?_; repeat (first | (refine Flo.au_skip (by exact rfl) (by exact rfl) ?_; simp only [Act.put, List.setIfInBounds_toArray, List.set_cons_zero, List.set_cons_succ]) | (refine Flo.au_free (by exact rfl) (by exact rfl) (by exact rfl) ?_; intro K hK; go_big_quiet_op; go_big_quiet_on) | (refine Flo.au_still (by exact rfl) (by exact rfl) (by exact rfl) ?_; intro K hK; go_simp; refine hK _ ?_; clear hK K) | (refine Flo.au_move (by exact rfl) (by exact rfl) ?_; intro K hK; go_wp2_with (fail); try (with_reducible refine ⟨rfl, trivial, ?_⟩)) | (refine Flo.mix_nil ?_)))
        go_wp2
        have H := num_next n t 3 Hq.out (by decide) (b0 := w0.heap.size) (b1 := w0.heap.size + 1) (b2 := w0.heap.size + 2) (by omega) (by omega) (by rw [← l0_li, ← l1_li, ← l2_li, ← l3_li]; exact HL.out)
        rw [← l3_li, ← l0_li, ← l1_li, ← l2_li, ← l3_li] at H
        exact ⟨⟨t + 1, by omega, by simp, H.drew, (B.setCell (by simp; omega) _).drew⟩, by simp only [intOf]; omega⟩
    · obtain rfl : t = 256 := by omega
      rw [show n % 2 ^ 256 = n by rw [← top_pow]; exact Nat.mod_eq_of_lt hn] at L F
      go_wp2
      refine bodyPost_ret (results_cell_row Try.results123 _ _ (w0.heap.size + 1) 35 _ (0, 0) _ rfl (put4_same L.2.1 _ _ _ _) Try.underlying35 rfl (by kernel_rfl)) rfl ⟨rfl, ?_⟩
      exact Below.put4 B (by omega) _ _ _ _
end Go.Proofs.Ytkgjgdeaclefiaa

/-! florinref01: Not. -/
namespace Go.Proofs.Ytkgjgdeaclefiaa
open Go Go.Proofs Go.RowKit Go.Flo

/-- Round t of a loop of 256 over one row, beside other blocks. -/
structure RowR (f : Nat → Nat → Int) (l : List (Nat × Array Value × TypeId)) (b : Nat) (w0 : World) (i : Value) (wr : World) (t : Nat) : Prop where
  le : t ≤ 256
  at_ : i = .int .i64 (t : Int)
  locs : Locs wr ((b, rowI (f t), 145) :: l)
  below : Below w0.heap.size w0 wr

theorem row_next {f : Nat → Nat → Int} {l : List (Nat × Array Value × TypeId)} {b : Nat} {wr : World} {t : Nat} {x : Int} {T : TypeId} (h : Locs wr ((b, rowI (f t), T) :: l)) (hne : ∀ y ∈ l, y.1 ≠ b)
    (hx : ∀ j, (if j = t then x else f t j) = f (t + 1) j) : Locs (wr.setCell ⟨b, t, none⟩ (.int .i64 x)) ((b, rowI (f (t + 1)), T) :: l) := by
  have := Locs.cell (j := t) (v := .int .i64 x) h hne
  rw [rowI_set] at this
  rw [← show (fun j => if j = t then x else f t j) = f (t + 1) from funext hx]
  exact this

theorem bit_not (m t : Nat) (hm : m < top) (ht : t < 256) : 1 - bit m t = bit (top - 1 - m) t := by
  have e : (top - 1 - m) / 2 ^ t % 2 = 1 - m / 2 ^ t % 2 := by
    rw [top_pow] at hm ⊢
    have := Nat.testBit_two_pow_sub_succ (x := m) (n := 256) hm t
    rw [show 2 ^ 256 - (m + 1) = 2 ^ 256 - 1 - m by omega] at this
    rw [← Nat.toNat_testBit, ← Nat.toNat_testBit, this]
    simp only [ht, decide_true, Bool.true_and]
    cases m.testBit t <;> rfl
  unfold bit
  rw [e]
  omega

set_option maxRecDepth 100000 in
set_option maxHeartbeats 4000000 in
theorem rnot_c (m : Nat) (hm : m < top) (w0 : World) :
    Calls Try.prog 71 #[uV m] w0 fun e w' => e = .returned (uV (top - 1 - m)) ∧ Below w0.heap.size w0 w' := by
  have L := Locs.nil w0; have B := Below.refl w0.heap.size w0; have Bz := B.size; have F := Locs.facts L; simp only [LocFacts] at F
  go_enter Try.func71, Try.ntmps71
  go_wp2_with (first
    | (go_at_call 122; (with_reducible refine (digits_c _ _).mono ?_); rintro e w1 ⟨rfl, hb⟩; replace L := Locs.below (by (first | (with_reducible exact L) | (with_reducible exact Locs.push L) | (with_reducible exact Locs.push (Locs.push L)) | (with_reducible exact Locs.push (Locs.push (Locs.push L))) | (with_reducible exact Locs.push (Locs.push (Locs.push (Locs.push L)))) | (with_reducible exact Locs.drew L) | (with_reducible exact Locs.drew (Locs.push L)) | (with_reducible exact Locs.push (Locs.drew L)))) hb; (replace B := Flo.below_step (w := w0) (by repeat' (first | (with_reducible exact Below.refl _ _) | (with_reducible assumption) | (with_reducible refine Below.drew ?_) | (with_reducible refine Below.alloc ?_ ?_ _) | (with_reducible refine Below.setCell ?_ ?_ _) | (with_reducible refine Flo.below_step ?_ (by assumption)) | (simp; done) | (simp; omega))) hb); clear hb; (try clear F); (try clear Bz); (try simp only [World.size_alloc] at L); (try simp only [heap_drew] at L); have Bz := B.size; have F := Locs.facts L; simp only [LocFacts] at F)
    | (refine wl_alloc rfl 145 rfl bitsZ ?_)
    | (refine wl_store rfl 145 _ _ rfl bitsT rfl rfl (heap_alloc_new _ _) (rowI_size _) (rowI_size _) (rowI_one _) ?_; rw [World.setRow_alloc_new]))
  have hn := L.old (Nat.le_refl _)
  have L0 := Locs.push L (cs := rowI (bit m)) (t := 145)
  have hf0 : (fun j => if j < 0 then 1 - bit m j else bit m j) = bit m := funext fun j => if_neg (Nat.not_lt_zero j)
  rw [← hf0] at L0
  have HB := below_step B ((Below.refl _ _).alloc (Nat.le_refl _) (.cells (rowI (bit m)) 145))
  obtain ⟨b, hb⟩ : ∃ b, b = w1.heap.size := ⟨_, rfl⟩
  have hb0 : w0.heap.size + 1 < b := by rw [hb]; exact F.1
  rw [← hb] at L0 hn
  go_loopw [4] (fun i wr => ∃ t, RowR (fun t j => if j < t then 1 - bit m j else bit m j) [(w0.heap.size + 1, #[.int .u64 0, .int .u64 0, .int .u64 0, .int .u64 0], 35), (w0.heap.size, #[.int .u64 (l0 m), .int .u64 (l1 m), .int .u64 (l2 m), .int .u64 (l3 m)], 35)] b w0 i wr t) (fun i _ => (256 - intOf i).toNat)
  case atStart => exact ⟨0, Nat.zero_le _, rfl, L0, HB⟩
  case round =>
    clear HB hf0 L0 L B Bz F
    rw [← hb]
    clear hb
    obtain ⟨t, le, rfl, L, B⟩ := hrel
    have Bz := B.size
    have F := Locs.facts L
    simp only [LocFacts] at F
    rcases Nat.lt_or_ge t 256 with hlt | hge
    · have hg : (rowI fun j => if j < t then 1 - bit m j else bit m j)[t]? = some (.int .i64 (bit m t)) := by rw [rowI_get _ hlt, if_neg (Nat.lt_irrefl t)]
      have hs := bit_small m t
      have HL := Lib.hid L
      clear L
      go_wp2
      have H := row_next (f := fun t j => if j < t then 1 - bit m j else bit m j) (x := 1 - bit m t) HL.out hn (fun j => by
        by_cases h : j = t
        · subst h; simp
        · by_cases h' : j < t
          · simp [h, h', Nat.lt_succ_of_lt h']
          · have : ¬ j < t + 1 := by omega
            simp [h, h', this])
      exact ⟨⟨t + 1, by omega, by simp, H, B.setCell (by simp; omega) _⟩, by simp only [intOf]; omega⟩
    · obtain rfl : t = 256 := by omega
      have e : (rowI fun j => if j < 256 then 1 - bit m j else bit m j) = rowI (bit (top - 1 - m)) := rowI_congr fun j hj => by rw [if_pos hj]; exact bit_not m j hm hj
      have L : Locs wr ((b, rowI (bit (top - 1 - m)), 145) :: _) := e ▸ L
      clear F
      go_wp2_with (first
        | (refine wl_load rfl 145 _ rfl bitsT rfl L.1 (rowI_size _) ?_)
        | (go_at_call 123; (with_reducible refine (number_c (top - 1 - m) (by omega) _).mono ?_); rintro e w1 ⟨rfl, hb⟩; replace L := Locs.below (by (first | (with_reducible exact L) | (with_reducible exact Locs.push L) | (with_reducible exact Locs.push (Locs.push L)) | (with_reducible exact Locs.push (Locs.push (Locs.push L))) | (with_reducible exact Locs.push (Locs.push (Locs.push (Locs.push L)))) | (with_reducible exact Locs.drew L) | (with_reducible exact Locs.drew (Locs.push L)) | (with_reducible exact Locs.push (Locs.drew L)))) hb; (replace B := Flo.below_step (w := w0) (by repeat' (first | (with_reducible exact Below.refl _ _) | (with_reducible assumption) | (with_reducible refine Below.drew ?_) | (with_reducible refine Below.alloc ?_ ?_ _) | (with_reducible refine Below.setCell ?_ ?_ _) | (with_reducible refine Flo.below_step ?_ (by assumption)) | (simp; done) | (simp; omega))) hb); clear hb; (try clear F); (try clear Bz); (try simp only [World.size_alloc] at L); (try simp only [heap_drew] at L); have Bz := B.size; have F := Locs.facts L; simp only [LocFacts] at F))
      refine bodyPost_ret (results_cell_row Try.results71 _ _ (w0.heap.size + 1) 35 _ (0, 0) _ rfl (put4_same L.2.1 _ _ _ _) Try.underlying35 rfl (by kernel_rfl)) rfl ⟨rfl, ?_⟩
      exact Below.put4 B (by omega) _ _ _ _
end Go.Proofs.Ytkgjgdeaclefiaa

/-! florinref01: Add: the plain law. -/
namespace Go.Proofs.Ytkgjgdeaclefiaa
open Go Go.Proofs Go.RowKit Go.Flo

/-- What is carried into digit t. -/
def carry (m n t : Nat) : Nat := (m % 2 ^ t + n % 2 ^ t) / 2 ^ t
theorem carry_le (m n t : Nat) : carry m n t ≤ 1 := by
  have h1 := Nat.mod_lt m (Nat.two_pow_pos t)
  have h2 := Nat.mod_lt n (Nat.two_pow_pos t)
  unfold carry
  have : (m % 2 ^ t + n % 2 ^ t) / 2 ^ t < 2 := (Nat.div_lt_iff_lt_mul (Nat.two_pow_pos t)).2 (by omega)
  omega
theorem carry_zero (m n : Nat) : carry m n 0 = 0 := by unfold carry; simp [Nat.mod_one]
theorem carry_succ (m n t : Nat) : carry m n (t + 1) = (m / 2 ^ t % 2 + n / 2 ^ t % 2 + carry m n t) / 2 := by
  unfold carry
  have hp := Nat.two_pow_pos t
  rw [Nat.mod_pow_succ, Nat.mod_pow_succ, Nat.pow_succ, ← Nat.div_div_eq_div_mul]
  congr 1
  rw [show m % 2 ^ t + 2 ^ t * (m / 2 ^ t % 2) + (n % 2 ^ t + 2 ^ t * (n / 2 ^ t % 2)) = (m % 2 ^ t + n % 2 ^ t) + 2 ^ t * (m / 2 ^ t % 2 + n / 2 ^ t % 2) by rw [Nat.mul_add]; omega, Nat.add_mul_div_left _ _ hp]
  omega
theorem sum_digit (m n t : Nat) : (m + n) / 2 ^ t % 2 = (m / 2 ^ t % 2 + n / 2 ^ t % 2 + carry m n t) % 2 := by
  unfold carry
  have hp := Nat.two_pow_pos t
  have h1 := Nat.div_add_mod m (2 ^ t)
  have h2 := Nat.div_add_mod n (2 ^ t)
  have e : m + n = (m % 2 ^ t + n % 2 ^ t) + 2 ^ t * (m / 2 ^ t + n / 2 ^ t) := by rw [Nat.mul_add]; omega
  rw [e, Nat.add_mul_div_left _ _ hp]
  omega
theorem bit_top (x t : Nat) (h : t < 256) : bit (x % top) t = bit x t := by
  unfold bit
  rw [top_pow, ← Nat.toNat_testBit, ← Nat.toNat_testBit, Nat.testBit_mod_two_pow]
  simp [h]
end Go.Proofs.Ytkgjgdeaclefiaa

/-! florinref01: Add: the walk. -/
namespace Go.Proofs.Ytkgjgdeaclefiaa
open Go Go.Proofs Go.RowKit Go.Flo

/-- Round t of Add. -/
structure AddR (m n : Nat) (l : List (Nat × Array Value × TypeId)) (b : Nat) (w0 : World) (c i : Value) (wr : World) (t : Nat) : Prop where
  le : t ≤ 256
  at_ : i = .int .i64 (t : Int)
  carry_ : c = .int .i64 (carry m n t : Int)
  locs : Locs wr ((b, rowI (fun j => if j < t then bit (m + n) j else bit m j), 145) :: l)
  below : Below w0.heap.size w0 wr

set_option maxRecDepth 100000 in
set_option maxHeartbeats 4000000 in
theorem radd_c (m n : Nat) (hm : m < top) (hn : n < top) (w0 : World) :
    Calls Try.prog 63 #[uV m, uV n] w0 fun e w' => e = .returned (.tuple #[uV ((m + n) % top), .bool (decide (top ≤ m + n))]) ∧ Below w0.heap.size w0 w' := by
  have L := Locs.nil w0; have B := Below.refl w0.heap.size w0; have Bz := B.size; have F := Locs.facts L; simp only [LocFacts] at F
  go_enter Try.func63, Try.ntmps63
  go_wp2_with (first
    | (go_at_call 122; (with_reducible refine (digits_c m _).mono ?_); rintro e wx ⟨rfl, hb⟩; replace L := Locs.below (by (first | (with_reducible exact L) | (with_reducible exact Locs.push L) | (with_reducible exact Locs.push (Locs.push L)) | (with_reducible exact Locs.push (Locs.push (Locs.push L))) | (with_reducible exact Locs.push (Locs.push (Locs.push (Locs.push L)))) | (with_reducible exact Locs.drew L) | (with_reducible exact Locs.drew (Locs.push L)) | (with_reducible exact Locs.push (Locs.drew L)))) hb; (replace B := Flo.below_step (w := w0) (by repeat' (first | (with_reducible exact Below.refl _ _) | (with_reducible assumption) | (with_reducible refine Below.drew ?_) | (with_reducible refine Below.alloc ?_ ?_ _) | (with_reducible refine Below.setCell ?_ ?_ _) | (with_reducible refine Flo.below_step ?_ (by assumption)) | (simp; done) | (simp; omega))) hb); clear hb; (try clear F); (try clear Bz); (try simp only [World.size_alloc] at L); (try simp only [heap_drew] at L); have Bz := B.size; have F := Locs.facts L; simp only [LocFacts] at F; have Bx := Lib.hid B.size)
    | (go_at_call 122; (with_reducible refine (digits_c n _).mono ?_); rintro e wy ⟨rfl, hb⟩; replace L := Locs.below (by (first | (with_reducible exact L) | (with_reducible exact Locs.push L) | (with_reducible exact Locs.push (Locs.push L)) | (with_reducible exact Locs.push (Locs.push (Locs.push L))) | (with_reducible exact Locs.push (Locs.push (Locs.push (Locs.push L)))) | (with_reducible exact Locs.drew L) | (with_reducible exact Locs.drew (Locs.push L)) | (with_reducible exact Locs.push (Locs.drew L)))) hb; (replace B := Flo.below_step (w := w0) (by repeat' (first | (with_reducible exact Below.refl _ _) | (with_reducible assumption) | (with_reducible refine Below.drew ?_) | (with_reducible refine Below.alloc ?_ ?_ _) | (with_reducible refine Below.setCell ?_ ?_ _) | (with_reducible refine Flo.below_step ?_ (by assumption)) | (simp; done) | (simp; omega))) hb); clear hb; (try clear F); (try clear Bz); (try simp only [World.size_alloc] at L); (try simp only [heap_drew] at L); have Bz := B.size; have F := Locs.facts L; simp only [LocFacts] at F)
    | (refine wl_alloc rfl 145 rfl bitsZ ?_)
    | (refine wl_store rfl 145 _ _ rfl bitsT rfl rfl (heap_alloc_new _ _) (rowI_size _) (rowI_size _) (rowI_one _) ?_; rw [World.setRow_alloc_new]))
  have L0 := Locs.push L (cs := rowI (bit n)) (t := 145)
  have hf0 : (fun j => if j < 0 then bit (m + n) j else bit m j) = bit m := funext fun j => if_neg (Nat.not_lt_zero j)
  have HB := below_step B ((Below.refl _ _).alloc (Nat.le_refl _) (.cells (rowI (bit n)) 145))
  have n1 : w0.heap.size + 1 + 1 ≠ wx.heap.size := fun e => by have h := L.2.1; have h2 := L.1; rw [e, h2] at h; simp at h
  rw [← hf0] at L0
  have L1 : Locs _ ((wx.heap.size, _, _) :: (wy.heap.size, _, _) :: _) := ⟨L0.2.1, L0.1, L0.2.2⟩
  have n2 : wx.heap.size < wy.heap.size := F.1
  clear L0 L F Bz B
  obtain ⟨x, hx⟩ : ∃ x, x = wx.heap.size := ⟨_, rfl⟩
  obtain ⟨y, hy⟩ : ∃ y, y = wy.heap.size := ⟨_, rfl⟩
  rw [← hx, ← hy] at L1 n2
  have n0 := Bx.out
  clear Bx
  rw [← hx] at n1 n0
  go_loopw [8, 9] (fun c i wr => ∃ t, AddR m n [(y, rowI (bit n), 145), (w0.heap.size + 1 + 1, #[.int .u64 0, .int .u64 0, .int .u64 0, .int .u64 0], 35)] x w0 c i wr t) (fun _ i _ => (256 - intOf i).toNat)
  case atStart => exact ⟨0, Nat.zero_le _, rfl, by rw [carry_zero]; rfl, ⟨L1.1, L1.2.1, L1.2.2.1, trivial⟩, HB⟩
  case round =>
    obtain ⟨t, le, rfl, rfl, L, B⟩ := hrel
    have Bz := B.size
    have F := Locs.facts L
    simp only [LocFacts] at F
    have hc1 := carry_le m n t
    obtain ⟨c, hc⟩ : ∃ c : Nat, c = carry m n t := ⟨_, rfl⟩
    rcases Nat.lt_or_ge t 256 with hlt | hge
    · have hg : (rowI fun j => if j < t then bit (m + n) j else bit m j)[t]? = some (.int .i64 (bit m t)) := by rw [rowI_get _ hlt, if_neg (Nat.lt_irrefl t)]
      have hg' : (rowI (bit n))[t]? = some (.int .i64 (bit n t)) := rowI_get _ hlt
      have hs := bit_small m t
      have hs' := bit_small n t
      have HL := Lib.hid L
      clear L L1 HB hf0
      rw [← hc] at hc1 ⊢
      have Hc := Lib.hid hc
      clear hc
      rw [← hx, ← hy]
      clear hx hy
      go_wp2
      (refine Flo.wp_region_auto (fun _ => True) Flo.rd (by kernel_rfl) (by decide +kernel) (trivial) ?_; repeat (first | (refine Flo.au_skip (by exact rfl) (by exact rfl) ?_; simp only [Act.put, List.setIfInBounds_toArray, List.set_cons_zero, List.set_cons_succ]) | (refine Flo.au_free (by exact rfl) (by exact rfl) (by exact rfl) ?_; intro K hK; go_big_quiet_op; go_big_quiet_on) | (refine Flo.au_still (by exact rfl) (by exact rfl) (by exact rfl) ?_; intro K hK; go_simp; refine hK _ ?_; clear hK K) | (refine Flo.au_move (by exact rfl) (by exact rfl) ?_; intro K hK; go_wp2_with (fail); try (with_reducible refine ⟨rfl, trivial, ?_⟩)) | (refine Flo.mix_nil ?_)))
      go_wp2
      have e1 : (bit m t + bit n t + (c : Int)) % 2 = bit (m + n) t := by
        unfold bit
        rw [sum_digit m n t, Hc.out]
        omega
      have e2 : (bit m t + bit n t + (c : Int)) / 2 = (carry m n (t + 1) : Int) := by
        unfold bit
        rw [carry_succ m n t, Hc.out]
        omega
      rw [e1, e2]
      have H := row_next (f := fun t j => if j < t then bit (m + n) j else bit m j) (x := bit (m + n) t) HL.out (by simp; omega) (fun j => by
        by_cases h : j = t
        · subst h; simp
        · by_cases h' : j < t
          · simp [h, h', Nat.lt_succ_of_lt h']
          · have : ¬ j < t + 1 := by omega
            simp [h, h', this])
      exact ⟨⟨t + 1, by omega, by simp, rfl, H.drew, (B.setCell (by simp; omega) _).drew⟩, by simp only [intOf]; omega⟩
    · obtain rfl : t = 256 := by omega
      have e : (rowI fun j => if j < 256 then bit (m + n) j else bit m j) = rowI (bit ((m + n) % top)) := rowI_congr fun j hj => by rw [if_pos hj, bit_top _ _ hj]
      have L : Locs wr ((x, rowI (bit ((m + n) % top)), 145) :: _) := e ▸ L
      have ec : ((carry m n 256 : Int) == 1) = decide (top ≤ m + n) := by
        have e1 : carry m n 256 = (m + n) / top := by unfold carry; rw [← top_pow, Nat.mod_eq_of_lt hm, Nat.mod_eq_of_lt hn]
        have e2 : (m + n) / top = if top ≤ m + n then 1 else 0 := by
          split
          · exact Nat.div_eq_of_lt_le (by omega) (by omega)
          · exact Nat.div_eq_of_lt (by omega)
        rw [e1, e2]
        by_cases h : top ≤ m + n <;> simp [h]
      clear F e L1 hf0 HB
      rw [← hx, ← hy]
      clear hx hy
      go_wp2_with (first
        | (refine wl_load rfl 145 _ rfl bitsT rfl L.1 (rowI_size _) ?_)
        | (go_at_call 123; (with_reducible refine (number_c ((m + n) % top) (Nat.mod_lt _ (by omega)) _).mono ?_); rintro e w1 ⟨rfl, hb⟩; replace L := Locs.below (by (first | (with_reducible exact L) | (with_reducible exact Locs.push L) | (with_reducible exact Locs.push (Locs.push L)) | (with_reducible exact Locs.push (Locs.push (Locs.push L))) | (with_reducible exact Locs.push (Locs.push (Locs.push (Locs.push L)))) | (with_reducible exact Locs.drew L) | (with_reducible exact Locs.drew (Locs.push L)) | (with_reducible exact Locs.push (Locs.drew L)))) hb; (replace B := Flo.below_step (w := w0) (by repeat' (first | (with_reducible exact Below.refl _ _) | (with_reducible assumption) | (with_reducible refine Below.drew ?_) | (with_reducible refine Below.alloc ?_ ?_ _) | (with_reducible refine Below.setCell ?_ ?_ _) | (with_reducible refine Flo.below_step ?_ (by assumption)) | (simp; done) | (simp; omega))) hb); clear hb; (try clear F); (try clear Bz); (try simp only [World.size_alloc] at L); (try simp only [heap_drew] at L); have Bz := B.size; have F := Locs.facts L; simp only [LocFacts] at F))
      have hc := fun j => cell_of_row _ _ j _ _ _ (put4_same L.2.2.1 (.int .u64 (l0 ((m + n) % top))) (.int .u64 (l1 ((m + n) % top))) (.int .u64 (l2 ((m + n) % top))) (.int .u64 (l3 ((m + n) % top))))
      refine bodyPost_ret (v := .tuple #[uV ((m + n) % top), .bool (decide (top ≤ m + n))]) (by simp [results, Try.results63, go_sem, hc]) rfl ⟨rfl, ?_⟩
      exact Below.put4 B (by omega) _ _ _ _
end Go.Proofs.Ytkgjgdeaclefiaa

/-! florinref01: Sub. -/
namespace Go.Proofs.Ytkgjgdeaclefiaa
open Go Go.Proofs Go.RowKit Go.Flo

theorem dif_digit (m n t : Nat) (hn : n < top) (ht : t < 256) : (m + top - n) / 2 ^ t % 2 + n / 2 ^ t % 2 + carry (m + top - n) n t = m / 2 ^ t % 2 + 2 * carry (m + top - n) n (t + 1) := by
  have h1 := sum_digit (m + top - n) n t
  have h2 := carry_succ (m + top - n) n t
  have h3 : (m + top - n + n) / 2 ^ t % 2 = m / 2 ^ t % 2 := by
    rw [show m + top - n + n = m + top by omega]
    have := bit_top (m + top) t ht
    rw [Nat.add_mod_right] at this
    have h := bit_top m t ht
    rw [this] at h
    unfold bit at h
    omega
  omega
/-- Round t of Sub: D is m + top - n; what is borrowed is what D + n carries. -/
structure SubR (m n : Nat) (l : List (Nat × Array Value × TypeId)) (b : Nat) (w0 : World) (c i : Value) (wr : World) (t : Nat) : Prop where
  le : t ≤ 256
  at_ : i = .int .i64 (t : Int)
  carry_ : c = .int .i64 (carry (m + top - n) n t : Int)
  locs : Locs wr ((b, rowI (fun j => if j < t then bit (m + top - n) j else bit m j), 145) :: l)
  below : Below w0.heap.size w0 wr

set_option maxRecDepth 100000 in
set_option maxHeartbeats 4000000 in
theorem rsub_c (m n : Nat) (hm : m < top) (hn : n < top) (w0 : World) :
    Calls Try.prog 64 #[uV m, uV n] w0 fun e w' => e = .returned (.tuple #[uV ((m + top - n) % top), .bool (decide (m < n))]) ∧ Below w0.heap.size w0 w' := by
  have L := Locs.nil w0; have B := Below.refl w0.heap.size w0; have Bz := B.size; have F := Locs.facts L; simp only [LocFacts] at F
  go_enter Try.func64, Try.ntmps64
  go_wp2_with (first
    | (go_at_call 122; (with_reducible refine (digits_c m _).mono ?_); rintro e wx ⟨rfl, hb⟩; replace L := Locs.below (by (first | (with_reducible exact L) | (with_reducible exact Locs.push L) | (with_reducible exact Locs.push (Locs.push L)) | (with_reducible exact Locs.push (Locs.push (Locs.push L))) | (with_reducible exact Locs.push (Locs.push (Locs.push (Locs.push L)))) | (with_reducible exact Locs.drew L) | (with_reducible exact Locs.drew (Locs.push L)) | (with_reducible exact Locs.push (Locs.drew L)))) hb; (replace B := Flo.below_step (w := w0) (by repeat' (first | (with_reducible exact Below.refl _ _) | (with_reducible assumption) | (with_reducible refine Below.drew ?_) | (with_reducible refine Below.alloc ?_ ?_ _) | (with_reducible refine Below.setCell ?_ ?_ _) | (with_reducible refine Flo.below_step ?_ (by assumption)) | (simp; done) | (simp; omega))) hb); clear hb; (try clear F); (try clear Bz); (try simp only [World.size_alloc] at L); (try simp only [heap_drew] at L); have Bz := B.size; have F := Locs.facts L; simp only [LocFacts] at F; have Bx := Lib.hid B.size)
    | (go_at_call 122; (with_reducible refine (digits_c n _).mono ?_); rintro e wy ⟨rfl, hb⟩; replace L := Locs.below (by (first | (with_reducible exact L) | (with_reducible exact Locs.push L) | (with_reducible exact Locs.push (Locs.push L)) | (with_reducible exact Locs.push (Locs.push (Locs.push L))) | (with_reducible exact Locs.push (Locs.push (Locs.push (Locs.push L)))) | (with_reducible exact Locs.drew L) | (with_reducible exact Locs.drew (Locs.push L)) | (with_reducible exact Locs.push (Locs.drew L)))) hb; (replace B := Flo.below_step (w := w0) (by repeat' (first | (with_reducible exact Below.refl _ _) | (with_reducible assumption) | (with_reducible refine Below.drew ?_) | (with_reducible refine Below.alloc ?_ ?_ _) | (with_reducible refine Below.setCell ?_ ?_ _) | (with_reducible refine Flo.below_step ?_ (by assumption)) | (simp; done) | (simp; omega))) hb); clear hb; (try clear F); (try clear Bz); (try simp only [World.size_alloc] at L); (try simp only [heap_drew] at L); have Bz := B.size; have F := Locs.facts L; simp only [LocFacts] at F)
    | (refine wl_alloc rfl 145 rfl bitsZ ?_)
    | (refine wl_store rfl 145 _ _ rfl bitsT rfl rfl (heap_alloc_new _ _) (rowI_size _) (rowI_size _) (rowI_one _) ?_; rw [World.setRow_alloc_new]))
  have L0 := Locs.push L (cs := rowI (bit n)) (t := 145)
  have hf0 : (fun j => if j < 0 then bit (m + top - n) j else bit m j) = bit m := funext fun j => if_neg (Nat.not_lt_zero j)
  have HB := below_step B ((Below.refl _ _).alloc (Nat.le_refl _) (.cells (rowI (bit n)) 145))
  have n1 : w0.heap.size + 1 + 1 ≠ wx.heap.size := fun e => by have h := L.2.1; have h2 := L.1; rw [e, h2] at h; simp at h
  rw [← hf0] at L0
  have L1 : Locs _ ((wx.heap.size, _, _) :: (wy.heap.size, _, _) :: _) := ⟨L0.2.1, L0.1, L0.2.2⟩
  have n2 : wx.heap.size < wy.heap.size := F.1
  clear L0 L F Bz B
  obtain ⟨x, hx⟩ : ∃ x, x = wx.heap.size := ⟨_, rfl⟩
  obtain ⟨y, hy⟩ : ∃ y, y = wy.heap.size := ⟨_, rfl⟩
  rw [← hx, ← hy] at L1 n2
  have n0 := Bx.out
  clear Bx
  rw [← hx] at n1 n0
  go_loopw [8, 9] (fun c i wr => ∃ t, SubR m n [(y, rowI (bit n), 145), (w0.heap.size + 1 + 1, #[.int .u64 0, .int .u64 0, .int .u64 0, .int .u64 0], 35)] x w0 c i wr t) (fun _ i _ => (256 - intOf i).toNat)
  case atStart => exact ⟨0, Nat.zero_le _, rfl, by rw [carry_zero]; rfl, ⟨L1.1, L1.2.1, L1.2.2.1, trivial⟩, HB⟩
  case round =>
    obtain ⟨t, le, rfl, rfl, L, B⟩ := hrel
    have Bz := B.size
    have F := Locs.facts L
    simp only [LocFacts] at F
    have hc1 := carry_le (m + top - n) n t
    obtain ⟨c, hc⟩ : ∃ c : Nat, c = carry (m + top - n) n t := ⟨_, rfl⟩
    rcases Nat.lt_or_ge t 256 with hlt | hge
    · have hg : (rowI fun j => if j < t then bit (m + top - n) j else bit m j)[t]? = some (.int .i64 (bit m t)) := by rw [rowI_get _ hlt, if_neg (Nat.lt_irrefl t)]
      have hg' : (rowI (bit n))[t]? = some (.int .i64 (bit n t)) := rowI_get _ hlt
      have hs := bit_small m t
      have hs' := bit_small n t
      have HL := Lib.hid L
      clear L L1 HB hf0
      rw [← hc] at hc1 ⊢
      have Hc := Lib.hid hc
      clear hc
      rw [← hx, ← hy]
      clear hx hy
      have E := dif_digit m n t hn hlt
      rw [← Hc.out] at E
      have hk := carry_le (m + top - n) n (t + 1)
      obtain ⟨k, hk1⟩ : ∃ k, k = carry (m + top - n) n (t + 1) := ⟨_, rfl⟩
      rw [← hk1] at E hk
      have hK := Lib.hid hk1
      have hdj := Lib.hid (show bit (m + top - n) t + bit n t + (c : Int) = bit m t + 2 * (k : Int) by unfold bit; omega)
      have hd2 := Lib.hid (bit_small (m + top - n) t)
      clear E hk1
      have fin : ∀ j, (if j = t then bit (m + top - n) t else (fun t j => if j < t then bit (m + top - n) j else bit m j) t j) = (fun t j => if j < t then bit (m + top - n) j else bit m j) (t + 1) j := fun j => by
        by_cases h : j = t
        · subst h; simp
        · by_cases h' : j < t
          · simp [h, h', Nat.lt_succ_of_lt h']
          · have : ¬ j < t + 1 := by omega
            simp [h, h', this]
      have H := row_next (f := fun t j => if j < t then bit (m + top - n) j else bit m j) (x := bit (m + top - n) t) HL.out (by simp; omega) fin
      have HH := Lib.hid H
      clear H fin
      rcases Nat.lt_or_ge 0 k with hk0 | hk0
      · have hneg : bit m t - bit n t - (c : Int) < 0 := by have := hdj.out; have := hd2.out; omega
        go_wp2
        (refine Flo.wp_region_auto (fun _ => True) Flo.rd (by kernel_rfl) (by decide +kernel) (trivial) ?_; repeat (first | (refine Flo.au_skip (by exact rfl) (by exact rfl) ?_; simp only [Act.put, List.setIfInBounds_toArray, List.set_cons_zero, List.set_cons_succ]) | (refine Flo.au_free (by exact rfl) (by exact rfl) (by exact rfl) ?_; intro K hK; go_big_quiet_op; go_big_quiet_on) | (refine Flo.au_still (by exact rfl) (by exact rfl) (by exact rfl) ?_; intro K hK; go_simp; refine hK _ ?_; clear hK K) | (refine Flo.au_move (by exact rfl) (by exact rfl) ?_; intro K hK; go_wp2_with (fail); try (with_reducible refine ⟨rfl, trivial, ?_⟩)) | (refine Flo.mix_nil ?_)))
        go_wp2
        rw [show bit m t - bit n t - (c : Int) + 2 = bit (m + top - n) t by have := hdj.out; omega]
        exact ⟨⟨t + 1, by omega, by simp, by rw [← hK.out]; congr 1; omega, HH.out.drew, (B.setCell (by simp; omega) _).drew⟩, by simp only [intOf]; omega⟩
      · have hneg : ¬ bit m t - bit n t - (c : Int) < 0 := by have := hdj.out; have := hd2.out; omega
        go_wp2
        (refine Flo.wp_region_auto (fun _ => True) Flo.rd (by kernel_rfl) (by decide +kernel) (trivial) ?_; repeat (first | (refine Flo.au_skip (by exact rfl) (by exact rfl) ?_; simp only [Act.put, List.setIfInBounds_toArray, List.set_cons_zero, List.set_cons_succ]) | (refine Flo.au_free (by exact rfl) (by exact rfl) (by exact rfl) ?_; intro K hK; go_big_quiet_op; go_big_quiet_on) | (refine Flo.au_still (by exact rfl) (by exact rfl) (by exact rfl) ?_; intro K hK; go_simp; refine hK _ ?_; clear hK K) | (refine Flo.au_move (by exact rfl) (by exact rfl) ?_; intro K hK; go_wp2_with (fail); try (with_reducible refine ⟨rfl, trivial, ?_⟩)) | (refine Flo.mix_nil ?_)))
        go_wp2
        rw [show bit m t - bit n t - (c : Int) = bit (m + top - n) t by have := hdj.out; omega]
        exact ⟨⟨t + 1, by omega, by simp, by rw [← hK.out]; congr 1; omega, HH.out.drew, (B.setCell (by simp; omega) _).drew⟩, by simp only [intOf]; omega⟩
    · obtain rfl : t = 256 := by omega
      have e : (rowI fun j => if j < 256 then bit (m + top - n) j else bit m j) = rowI (bit ((m + top - n) % top)) := rowI_congr fun j hj => by rw [if_pos hj, bit_top _ _ hj]
      have L : Locs wr ((x, rowI (bit ((m + top - n) % top)), 145) :: _) := e ▸ L
      have ec : ((carry (m + top - n) n 256 : Int) == 1) = decide (m < n) := by
        have e2 : carry (m + top - n) n 256 = if m < n then 1 else 0 := by
          unfold carry
          rw [← top_pow, Nat.mod_eq_of_lt hn]
          split
          · rw [Nat.mod_eq_of_lt (by omega), show m + top - n + n = m + top by omega, Nat.add_div_right _ (by omega), Nat.div_eq_of_lt hm]
          · rw [show m + top - n = (m - n) + top by omega, Nat.add_mod_right, Nat.mod_eq_of_lt (by omega), Nat.div_eq_of_lt (by omega)]
        rw [e2]
        by_cases h : m < n <;> simp [h]
      clear F e L1 hf0 HB
      rw [← hx, ← hy]
      clear hx hy
      go_wp2_with (first
        | (refine wl_load rfl 145 _ rfl bitsT rfl L.1 (rowI_size _) ?_)
        | (go_at_call 123; (with_reducible refine (number_c ((m + top - n) % top) (Nat.mod_lt _ (by omega)) _).mono ?_); rintro e w1 ⟨rfl, hb⟩; replace L := Locs.below (by (first | (with_reducible exact L) | (with_reducible exact Locs.push L) | (with_reducible exact Locs.push (Locs.push L)) | (with_reducible exact Locs.push (Locs.push (Locs.push L))) | (with_reducible exact Locs.push (Locs.push (Locs.push (Locs.push L)))) | (with_reducible exact Locs.drew L) | (with_reducible exact Locs.drew (Locs.push L)) | (with_reducible exact Locs.push (Locs.drew L)))) hb; (replace B := Flo.below_step (w := w0) (by repeat' (first | (with_reducible exact Below.refl _ _) | (with_reducible assumption) | (with_reducible refine Below.drew ?_) | (with_reducible refine Below.alloc ?_ ?_ _) | (with_reducible refine Below.setCell ?_ ?_ _) | (with_reducible refine Flo.below_step ?_ (by assumption)) | (simp; done) | (simp; omega))) hb); clear hb; (try clear F); (try clear Bz); (try simp only [World.size_alloc] at L); (try simp only [heap_drew] at L); have Bz := B.size; have F := Locs.facts L; simp only [LocFacts] at F))
      have hc := fun j => cell_of_row _ _ j _ _ _ (put4_same L.2.2.1 (.int .u64 (l0 ((m + top - n) % top))) (.int .u64 (l1 ((m + top - n) % top))) (.int .u64 (l2 ((m + top - n) % top))) (.int .u64 (l3 ((m + top - n) % top))))
      refine bodyPost_ret (v := .tuple #[uV ((m + top - n) % top), .bool (decide (m < n))]) (by simp [results, Try.results64, go_sem, hc]) rfl ⟨rfl, ?_⟩
      exact Below.put4 B (by omega) _ _ _ _
end Go.Proofs.Ytkgjgdeaclefiaa

/-! florinref01: Cmp, Len. -/
namespace Go.Proofs.Ytkgjgdeaclefiaa
open Go Go.Proofs Go.RowKit Go.Flo

/-- Round of Cmp: the digits from k on are alike. -/
structure CmpR (m n : Nat) (x y : Nat) (w0 : World) (i : Value) (wr : World) (k : Nat) : Prop where
  le : k ≤ 256
  at_ : i = .int .i64 ((k : Int) - 1)
  same : m / 2 ^ k = n / 2 ^ k
  locs : Locs wr [(x, rowI (bit m), 145), (y, rowI (bit n), 145)]
  below : Below w0.heap.size w0 wr

theorem bit_up (m k : Nat) : ((m / 2 ^ k : Nat) : Int) = 2 * ((m / 2 ^ (k + 1) : Nat) : Int) + bit m k := by
  unfold bit
  rw [Nat.pow_succ, ← Nat.div_div_eq_div_mul]
  omega
theorem lt_of_digits {m n k : Nat} (h : m / 2 ^ k < n / 2 ^ k) : m < n := by
  rcases Nat.lt_or_ge m n with h' | h'
  · exact h'
  · exact absurd (Nat.div_le_div_right (c := 2 ^ k) h') (by omega)

set_option maxRecDepth 100000 in
set_option maxHeartbeats 4000000 in
theorem rcmp_c (m n : Nat) (hm : m < top) (hn : n < top) (w0 : World) :
    Calls Try.prog 68 #[uV m, uV n] w0 fun e w' => e = .returned (.int .i64 (cmpI m n)) ∧ Below w0.heap.size w0 w' := by
  have L := Locs.nil w0; have B := Below.refl w0.heap.size w0; have Bz := B.size; have F := Locs.facts L; simp only [LocFacts] at F
  go_enter Try.func68, Try.ntmps68
  go_wp2_with (first
    | (go_at_call 122; (with_reducible refine (digits_c m _).mono ?_); rintro e wx ⟨rfl, hb⟩; replace L := Locs.below (by (first | (with_reducible exact L) | (with_reducible exact Locs.push L) | (with_reducible exact Locs.push (Locs.push L)) | (with_reducible exact Locs.push (Locs.push (Locs.push L))) | (with_reducible exact Locs.push (Locs.push (Locs.push (Locs.push L)))) | (with_reducible exact Locs.drew L) | (with_reducible exact Locs.drew (Locs.push L)) | (with_reducible exact Locs.push (Locs.drew L)))) hb; (replace B := Flo.below_step (w := w0) (by repeat' (first | (with_reducible exact Below.refl _ _) | (with_reducible assumption) | (with_reducible refine Below.drew ?_) | (with_reducible refine Below.alloc ?_ ?_ _) | (with_reducible refine Below.setCell ?_ ?_ _) | (with_reducible refine Flo.below_step ?_ (by assumption)) | (simp; done) | (simp; omega))) hb); clear hb; (try clear F); (try clear Bz); (try simp only [World.size_alloc] at L); (try simp only [heap_drew] at L); have Bz := B.size; have F := Locs.facts L; simp only [LocFacts] at F)
    | (go_at_call 122; (with_reducible refine (digits_c n _).mono ?_); rintro e wy ⟨rfl, hb⟩; replace L := Locs.below (by (first | (with_reducible exact L) | (with_reducible exact Locs.push L) | (with_reducible exact Locs.push (Locs.push L)) | (with_reducible exact Locs.push (Locs.push (Locs.push L))) | (with_reducible exact Locs.push (Locs.push (Locs.push (Locs.push L)))) | (with_reducible exact Locs.drew L) | (with_reducible exact Locs.drew (Locs.push L)) | (with_reducible exact Locs.push (Locs.drew L)))) hb; (replace B := Flo.below_step (w := w0) (by repeat' (first | (with_reducible exact Below.refl _ _) | (with_reducible assumption) | (with_reducible refine Below.drew ?_) | (with_reducible refine Below.alloc ?_ ?_ _) | (with_reducible refine Below.setCell ?_ ?_ _) | (with_reducible refine Flo.below_step ?_ (by assumption)) | (simp; done) | (simp; omega))) hb); clear hb; (try clear F); (try clear Bz); (try simp only [World.size_alloc] at L); (try simp only [heap_drew] at L); have Bz := B.size; have F := Locs.facts L; simp only [LocFacts] at F)
    | (refine wl_alloc rfl 145 rfl bitsZ ?_)
    | (refine wl_store rfl 145 _ _ rfl bitsT rfl rfl (heap_alloc_new _ _) (rowI_size _) (rowI_size _) (rowI_one _) ?_; rw [World.setRow_alloc_new]))
  have L0 := Locs.push L (cs := rowI (bit n)) (t := 145)
  have HB := below_step B ((Below.refl _ _).alloc (Nat.le_refl _) (.cells (rowI (bit n)) 145))
  have L1 : Locs _ [(wx.heap.size, rowI (bit m), 145), (wy.heap.size, rowI (bit n), 145)] := ⟨L0.2.1, L0.1, trivial⟩
  clear L0 L F Bz B
  obtain ⟨x, hx⟩ : ∃ x, x = wx.heap.size := ⟨_, rfl⟩
  obtain ⟨y, hy⟩ : ∃ y, y = wy.heap.size := ⟨_, rfl⟩
  rw [← hx, ← hy] at L1
  have top0 : m / 2 ^ 256 = n / 2 ^ 256 := by rw [← top_pow, Nat.div_eq_of_lt hm, Nat.div_eq_of_lt hn]
  go_loopw [7] (fun i wr => ∃ k, CmpR m n x y w0 i wr k) (fun i _ => (intOf i + 1).toNat)
  case atStart => exact ⟨256, Nat.le_refl _, rfl, top0, L1, HB⟩
  case round =>
    clear L1 HB top0
    rw [← hx, ← hy]
    clear hx hy
    obtain ⟨k, le, rfl, same, L, B⟩ := hrel
    have Bz := B.size
    have F := Locs.facts L
    simp only [LocFacts] at F
    have same := Lib.hid same
    have HL := Lib.hid L
    clear L
    rcases k with _ | k
    · have e : ((0 : Nat) : Int) - 1 = -1 := rfl
      rw [e]
      have hmn : m = n := by have := same.out; simpa using this
      subst hmn
      go_wp2
      refine bodyPost_ret (v := .int .i64 (cmpI m m)) (by simp [results, Try.results68, go_sem, cmpI_eq]) rfl ⟨rfl, B⟩
    · have e : ((k + 1 : Nat) : Int) - 1 = (k : Int) := by omega
      rw [e]
      have hg : (rowI (bit m))[k]? = some (.int .i64 (bit m k)) := rowI_get _ (by omega)
      have hg' : (rowI (bit n))[k]? = some (.int .i64 (bit n k)) := rowI_get _ (by omega)
      have u1 := Lib.hid (bit_up m k)
      have u2 := Lib.hid (bit_up n k)
      rcases Int.lt_trichotomy (bit m k) (bit n k) with h | h | h
      · have hlt : m < n := lt_of_digits (k := k) (by have := u1.out; have := u2.out; have := same.out; omega)
        go_wp2
        (refine Flo.wp_region_auto (fun _ => True) Flo.rd (by kernel_rfl) (by decide +kernel) (trivial) ?_; repeat (first | (refine Flo.au_skip (by exact rfl) (by exact rfl) ?_; simp only [Act.put, List.setIfInBounds_toArray, List.set_cons_zero, List.set_cons_succ]) | (refine Flo.au_free (by exact rfl) (by exact rfl) (by exact rfl) ?_; intro K hK; go_big_quiet_op; go_big_quiet_on) | (refine Flo.au_still (by exact rfl) (by exact rfl) (by exact rfl) ?_; intro K hK; go_simp; refine hK _ ?_; clear hK K) | (refine Flo.au_move (by exact rfl) (by exact rfl) ?_; intro K hK; go_wp2_with (fail); try (with_reducible refine ⟨rfl, trivial, ?_⟩)) | (refine Flo.mix_nil ?_)))
        go_wp2
        refine bodyPost_ret (v := .int .i64 (cmpI m n)) (by simp [results, Try.results68, go_sem, cmpI_lt hlt]) rfl ⟨rfl, B.drew⟩
      · have same' := Lib.hid (show m / 2 ^ k = n / 2 ^ k by have := u1.out; have := u2.out; have := same.out; omega)
        have hge : ¬ bit m k < bit n k := by omega
        have hge' : ¬ bit n k < bit m k := by omega
        go_wp2
        (refine Flo.wp_region_auto (fun _ => True) Flo.rd (by kernel_rfl) (by decide +kernel) (trivial) ?_; repeat (first | (refine Flo.au_skip (by exact rfl) (by exact rfl) ?_; simp only [Act.put, List.setIfInBounds_toArray, List.set_cons_zero, List.set_cons_succ]) | (refine Flo.au_free (by exact rfl) (by exact rfl) (by exact rfl) ?_; intro K hK; go_big_quiet_op; go_big_quiet_on) | (refine Flo.au_still (by exact rfl) (by exact rfl) (by exact rfl) ?_; intro K hK; go_simp; refine hK _ ?_; clear hK K) | (refine Flo.au_move (by exact rfl) (by exact rfl) ?_; intro K hK; go_wp2_with (fail); try (with_reducible refine ⟨rfl, trivial, ?_⟩)) | (refine Flo.mix_nil ?_)))
        go_wp2
        (refine Flo.wp_region_auto (fun _ => True) Flo.rd (by kernel_rfl) (by decide +kernel) (trivial) ?_; repeat (first | (refine Flo.au_skip (by exact rfl) (by exact rfl) ?_; simp only [Act.put, List.setIfInBounds_toArray, List.set_cons_zero, List.set_cons_succ]) | (refine Flo.au_free (by exact rfl) (by exact rfl) (by exact rfl) ?_; intro K hK; go_big_quiet_op; go_big_quiet_on) | (refine Flo.au_still (by exact rfl) (by exact rfl) (by exact rfl) ?_; intro K hK; go_simp; refine hK _ ?_; clear hK K) | (refine Flo.au_move (by exact rfl) (by exact rfl) ?_; intro K hK; go_wp2_with (fail); try (with_reducible refine ⟨rfl, trivial, ?_⟩)) | (refine Flo.mix_nil ?_)))
        go_wp2
        exact ⟨⟨k, by omega, rfl, same'.out, HL.out.drew.drew, B.drew.drew⟩, by simp only [intOf]; omega⟩
      · have hgt : n < m := lt_of_digits (k := k) (by have := u1.out; have := u2.out; have := same.out; omega)
        have hge : ¬ bit m k < bit n k := by omega
        go_wp2
        (refine Flo.wp_region_auto (fun _ => True) Flo.rd (by kernel_rfl) (by decide +kernel) (trivial) ?_; repeat (first | (refine Flo.au_skip (by exact rfl) (by exact rfl) ?_; simp only [Act.put, List.setIfInBounds_toArray, List.set_cons_zero, List.set_cons_succ]) | (refine Flo.au_free (by exact rfl) (by exact rfl) (by exact rfl) ?_; intro K hK; go_big_quiet_op; go_big_quiet_on) | (refine Flo.au_still (by exact rfl) (by exact rfl) (by exact rfl) ?_; intro K hK; go_simp; refine hK _ ?_; clear hK K) | (refine Flo.au_move (by exact rfl) (by exact rfl) ?_; intro K hK; go_wp2_with (fail); try (with_reducible refine ⟨rfl, trivial, ?_⟩)) | (refine Flo.mix_nil ?_)))
        go_wp2
        (refine Flo.wp_region_auto (fun _ => True) Flo.rd (by kernel_rfl) (by decide +kernel) (trivial) ?_; repeat (first | (refine Flo.au_skip (by exact rfl) (by exact rfl) ?_; simp only [Act.put, List.setIfInBounds_toArray, List.set_cons_zero, List.set_cons_succ]) | (refine Flo.au_free (by exact rfl) (by exact rfl) (by exact rfl) ?_; intro K hK; go_big_quiet_op; go_big_quiet_on) | (refine Flo.au_still (by exact rfl) (by exact rfl) (by exact rfl) ?_; intro K hK; go_simp; refine hK _ ?_; clear hK K) | (refine Flo.au_move (by exact rfl) (by exact rfl) ?_; intro K hK; go_wp2_with (fail); try (with_reducible refine ⟨rfl, trivial, ?_⟩)) | (refine Flo.mix_nil ?_)))
        go_wp2
        refine bodyPost_ret (v := .int .i64 (cmpI m n)) (by simp [results, Try.results68, go_sem, cmpI_gt hgt]) rfl ⟨rfl, B.drew.drew⟩

structure LenR (m : Nat) (x : Nat) (w0 : World) (i : Value) (wr : World) (k : Nat) : Prop where
  le : k ≤ 256
  at_ : i = .int .i64 ((k : Int) - 1)
  same : m / 2 ^ k = 0
  locs : Locs wr [(x, rowI (bit m), 145)]
  below : Below w0.heap.size w0 wr
theorem lenN_of {m k : Nat} (h : m / 2 ^ k = 1) : lenN m = k + 1 := by
  have hp := Nat.two_pow_pos k
  have h1 : lenN m ≤ k + 1 := lenN_le.2 (by
    have := Nat.lt_mul_div_succ m hp
    rw [h] at this
    rw [Nat.pow_succ]
    omega)
  have h2 : ¬ lenN m ≤ k := fun h' => by
    have := lenN_le.1 h'
    rw [Nat.div_eq_of_lt this] at h
    omega
  omega

set_option maxRecDepth 100000 in
set_option maxHeartbeats 4000000 in
theorem rlen_c (m : Nat) (hm : m < top) (w0 : World) :
    Calls Try.prog 70 #[uV m] w0 fun e w' => e = .returned (.int .i64 (lenN m)) ∧ Below w0.heap.size w0 w' := by
  have L := Locs.nil w0; have B := Below.refl w0.heap.size w0; have Bz := B.size; have F := Locs.facts L; simp only [LocFacts] at F
  go_enter Try.func70, Try.ntmps70
  go_wp2_with (first
    | (go_at_call 122; (with_reducible refine (digits_c m _).mono ?_); rintro e wx ⟨rfl, hb⟩; replace L := Locs.below (by (first | (with_reducible exact L) | (with_reducible exact Locs.push L) | (with_reducible exact Locs.push (Locs.push L)) | (with_reducible exact Locs.push (Locs.push (Locs.push L))) | (with_reducible exact Locs.push (Locs.push (Locs.push (Locs.push L)))) | (with_reducible exact Locs.drew L) | (with_reducible exact Locs.drew (Locs.push L)) | (with_reducible exact Locs.push (Locs.drew L)))) hb; (replace B := Flo.below_step (w := w0) (by repeat' (first | (with_reducible exact Below.refl _ _) | (with_reducible assumption) | (with_reducible refine Below.drew ?_) | (with_reducible refine Below.alloc ?_ ?_ _) | (with_reducible refine Below.setCell ?_ ?_ _) | (with_reducible refine Flo.below_step ?_ (by assumption)) | (simp; done) | (simp; omega))) hb); clear hb; (try clear F); (try clear Bz); (try simp only [World.size_alloc] at L); (try simp only [heap_drew] at L); have Bz := B.size; have F := Locs.facts L; simp only [LocFacts] at F)
    | (refine wl_alloc rfl 145 rfl bitsZ ?_)
    | (refine wl_store rfl 145 _ _ rfl bitsT rfl rfl (heap_alloc_new _ _) (rowI_size _) (rowI_size _) (rowI_one _) ?_; rw [World.setRow_alloc_new]))
  have L0 := Locs.push L (cs := rowI (bit m)) (t := 145)
  have HB := below_step B ((Below.refl _ _).alloc (Nat.le_refl _) (.cells (rowI (bit m)) 145))
  have L1 : Locs _ [(wx.heap.size, rowI (bit m), 145)] := ⟨L0.1, trivial⟩
  clear L0 L F Bz B
  obtain ⟨x, hx⟩ : ∃ x, x = wx.heap.size := ⟨_, rfl⟩
  rw [← hx] at L1
  have top0 : m / 2 ^ 256 = 0 := by rw [← top_pow, Nat.div_eq_of_lt hm]
  go_loopw [4] (fun i wr => ∃ k, LenR m x w0 i wr k) (fun i _ => (intOf i + 1).toNat)
  case atStart => exact ⟨256, Nat.le_refl _, rfl, top0, L1, HB⟩
  case round =>
    clear L1 HB top0
    rw [← hx]
    clear hx
    obtain ⟨k, le, rfl, same, L, B⟩ := hrel
    have Bz := B.size
    have F := Locs.facts L
    simp only [LocFacts] at F
    have same := Lib.hid same
    have HL := Lib.hid L
    clear L
    rcases k with _ | k
    · have e : ((0 : Nat) : Int) - 1 = -1 := rfl
      rw [e]
      have hmn : m = 0 := by have := same.out; simpa using this
      subst hmn
      go_wp2
      have hz : lenN 0 = 0 := by decide +kernel
      refine bodyPost_ret (v := .int .i64 (lenN 0)) (by rw [hz]; simp [results, Try.results70, go_sem]) rfl ⟨rfl, B⟩
    · have e : ((k + 1 : Nat) : Int) - 1 = (k : Int) := by omega
      rw [e]
      have hg : (rowI (bit m))[k]? = some (.int .i64 (bit m k)) := rowI_get _ (by omega)
      have hs := bit_small m k
      have u1 := Lib.hid (bit_up m k)
      rcases Int.lt_or_le (bit m k) 1 with h | h
      · have hb : (bit m k == 1) = false := by rw [beq_eq_false_iff_ne]; omega
        have same' := Lib.hid (show m / 2 ^ k = 0 by have := u1.out; have := same.out; omega)
        go_wp2
        exact ⟨⟨k, by omega, rfl, same'.out, HL.out, B⟩, by simp only [intOf]; omega⟩
      · have hb : (bit m k == 1) = true := by rw [beq_iff_eq]; omega
        have hl := Lib.hid (lenN_of (m := m) (k := k) (by have := u1.out; have := same.out; omega))
        go_wp2
        refine bodyPost_ret (v := .int .i64 (lenN m)) (by rw [hl.out]; simp [results, Try.results70, go_sem]) rfl ⟨rfl, B⟩
end Go.Proofs.Ytkgjgdeaclefiaa

/-! florinref01: Shl, Of. -/
namespace Go.Proofs.Ytkgjgdeaclefiaa
open Go Go.Proofs Go.RowKit Go.Flo

/-- Round t of Shl. -/
structure ShlR (m k : Nat) (x y : Nat) (l : List It) (w0 : World) (v i : Value) (wr : World) (t : Nat) : Prop where
  le : t ≤ 256
  at_ : i = .int .i64 (t : Int)
  lost : v = .bool (decide (m % 2 ^ t / 2 ^ (256 - k) ≠ 0))
  mem : Mem w0 wr (.c y (rowI fun j => if k ≤ j ∧ j < k + t then bit m (j - k) else 0) 145 :: .c x (rowI (bit m)) 145 :: l)

theorem lost_next (m t S : Nat) (h : S ≤ t) : decide (m % 2 ^ (t + 1) / 2 ^ S ≠ 0) = (decide (m % 2 ^ t / 2 ^ S ≠ 0) || (bit m t == 1)) := by
  have e : m % 2 ^ (t + 1) / 2 ^ S = m % 2 ^ t / 2 ^ S + 2 ^ (t - S) * (m / 2 ^ t % 2) := by
    rw [Nat.mod_pow_succ]
    have : 2 ^ t * (m / 2 ^ t % 2) = 2 ^ S * (2 ^ (t - S) * (m / 2 ^ t % 2)) := by rw [← Nat.mul_assoc, ← Nat.pow_add, show S + (t - S) = t by omega]
    rw [this, Nat.add_mul_div_left _ _ (Nat.two_pow_pos S)]
  rw [e]
  have hp := Nat.two_pow_pos (t - S)
  have hb : m / 2 ^ t % 2 = 0 ∨ m / 2 ^ t % 2 = 1 := by omega
  unfold bit
  rw [Bool.eq_iff_iff]
  simp only [Bool.or_eq_true, decide_eq_true_eq, beq_iff_eq]
  rcases hb with hb | hb
  · simp only [hb]
    simp
  · simp only [hb, Nat.mul_one]
    refine ⟨fun _ => .inr rfl, fun _ h => ?_⟩
    generalize 2 ^ (t - S) = z at *
    generalize m % 2 ^ t / 2 ^ S = q at *
    omega
theorem lost_none (m t S : Nat) (h : t < S) : decide (m % 2 ^ (t + 1) / 2 ^ S ≠ 0) = false ∧ decide (m % 2 ^ t / 2 ^ S ≠ 0) = false := by
  have h1 : m % 2 ^ (t + 1) < 2 ^ S := Nat.lt_of_lt_of_le (Nat.mod_lt _ (Nat.two_pow_pos _)) (Nat.pow_le_pow_right (by decide) (by omega))
  have h2 : m % 2 ^ t < 2 ^ S := Nat.lt_of_lt_of_le (Nat.mod_lt _ (Nat.two_pow_pos _)) (Nat.pow_le_pow_right (by decide) (by omega))
  rw [Nat.div_eq_of_lt h1, Nat.div_eq_of_lt h2]
  exact ⟨rfl, rfl⟩
theorem bit_shl (m k j : Nat) (hj : j < 256) : bit (m * 2 ^ k % top) j = if k ≤ j then bit m (j - k) else 0 := by
  rw [bit_top _ _ hj]
  unfold bit
  rw [← Nat.toNat_testBit, Nat.testBit_mul_two_pow, ← Nat.toNat_testBit]
  by_cases h : k ≤ j <;> simp [h]
theorem lost_all (m k : Nat) (hm : m < top) : decide (m % 2 ^ 256 / 2 ^ (256 - k) ≠ 0) = decide (top ≤ m * 2 ^ k) := by
  rw [decide_eq_decide]
  rw [top_pow] at hm ⊢
  rw [Nat.mod_eq_of_lt hm, ← Nat.pos_iff_ne_zero, Nat.div_pos_iff]
  rcases Nat.lt_or_ge k 256 with hk | hk
  · have e : 2 ^ 256 = 2 ^ (256 - k) * 2 ^ k := by rw [← Nat.pow_add]; congr 1; omega
    rw [e]
    constructor
    · intro h; exact Nat.mul_le_mul_right _ h.2
    · intro h; exact ⟨Nat.two_pow_pos _, Nat.le_of_mul_le_mul_right h (Nat.two_pow_pos k)⟩
  · rw [show 256 - k = 0 by omega]
    have hle : 2 ^ 256 ≤ 2 ^ k := Nat.pow_le_pow_right (by decide) hk
    constructor
    · intro h
      refine Nat.le_trans hle (Nat.le_mul_of_pos_left _ ?_)
      have := h.2
      omega
    · intro h
      refine ⟨by decide, ?_⟩
      rcases Nat.eq_zero_or_pos m with h0 | h0
      · subst h0; simp at h
      · exact h0

theorem mem_rowI {w0 w : World} {l : List It} {b i : Nat} {f g : Nat → Int} {x : Int} {T : TypeId} (h : Mem w0 w (.c b (rowI f) T :: l)) (hx : ∀ j, (if j = i then x else f j) = g j) :
    Mem w0 (w.setCell ⟨b, i, none⟩ (.int .i64 x)) (.c b (rowI g) T :: l) := by
  have := h.put 0 rfl i (.int .i64 x)
  rw [rowI_set] at this
  rw [← show (fun j => if j = i then x else f j) = g from funext hx]
  exact this

set_option maxRecDepth 100000 in
set_option maxHeartbeats 4000000 in
theorem rshl_n (m : Nat) (hm : m < top) (n : Int) (k : Nat) (hk : max n 0 = (k : Int)) (w0 : World) :
    Calls Try.prog 125 #[uV m, .int .i64 n] w0 fun e w' => e = .returned (.tuple #[uV (m * 2 ^ k % top), .bool (decide (top ≤ m * 2 ^ k))]) ∧ Below w0.heap.size w0 w' := by
  have hT : m * 2 ^ k % top < top := Nat.mod_lt _ (Nat.lt_of_le_of_lt (Nat.zero_le _) hm)
  have M := Mem.nil w0; have F := Mem.facts M; simp only [MemFacts] at F; (try simp only [ApartFacts] at F)
  go_enter Try.func125, Try.ntmps125
  go_wp2_with (first
    | (go_at_call 122; (with_reducible refine (digits_c m _).mono ?_); rintro e wx ⟨rfl, hb⟩; replace M := Mem.call (w0 := w0) (by repeat' (first | (with_reducible exact M) | (with_reducible apply Mem.drew) | (with_reducible apply Mem.alloc))) hb; clear hb; (try clear F); (try simp only [World.size_alloc] at M); (try simp only [heap_drew] at M); have F := Mem.facts M; simp only [MemFacts] at F; (try simp only [ApartFacts] at F))
    | (refine wl_alloc rfl 145 rfl bitsZ ?_)
    | (refine wl_store rfl 145 _ _ rfl bitsT rfl rfl (heap_alloc_new _ _) (rowI_size _) (rowI_size _) (rowI_one _) ?_; rw [World.setRow_alloc_new]))
  replace M := Mem.alloc (Mem.alloc M (cs := rowI (bit m)) (t := 145)) (cs := rowI fun _ => 0) (t := 145)
  simp only [World.size_alloc] at M
  obtain ⟨x, hx⟩ : ∃ x, x = wx.heap.size := ⟨_, rfl⟩
  rw [← hx] at M
  clear F
  go_loopw [8, 9] (fun v i wr => ∃ t, ShlR m k x (x + 1) [.c (w0.heap.size + 1) #[.int .u64 0, .int .u64 0, .int .u64 0, .int .u64 0] 35] w0 v i wr t) (fun _ i _ => (256 - intOf i).toNat)
  case atStart => exact ⟨0, Nat.zero_le _, rfl, by simp [Nat.mod_one], by
    have e : (fun j => if k ≤ j ∧ j < k + 0 then bit m (j - k) else 0) = fun _ => (0 : Int) := funext fun j => if_neg (by omega)
    rw [e]
    exact M.pick [0, 1, 2] (by decide)⟩
  case round =>
    clear M
    rw [← hx]
    clear hx
    obtain ⟨t, le, rfl, hv, M⟩ := hrel
    subst hv
    have F := Mem.facts M; simp only [MemFacts] at F; (try simp only [ApartFacts] at F)
    have HM := Lib.hid M
    rcases Nat.lt_or_ge t 256 with hlt | hge
    · clear M
      have hg : (rowI (bit m))[t]? = some (.int .i64 (bit m t)) := rowI_get _ hlt
      have hs := bit_small m t
      have hk0 : (0 : Int) ≤ (k : Int) := Int.natCast_nonneg k
      have HK := Lib.hid hk
      clear hk
      by_cases ha : t + k < 256
      · have h1 : (k : Int) < 256 := by omega
        have h2 : (t : Int) + (k : Int) < 256 := by omega
        have e : (t : Int) + (k : Int) = ((t + k : Nat) : Int) := by omega
        have HL := Lib.hid (lost_none m t (256 - k) (by omega))
        rw [HL.out.2]
        have hy : (rowI fun j => if k ≤ j ∧ j < k + t then bit m (j - k) else 0)[t + k]? = some (.int .i64 0) := by rw [rowI_get _ (by omega), if_neg (by omega)]
        clear e
        go_wp2
        refine ⟨⟨t + 1, by omega, by simp, by rw [HL.out.1], ?_⟩, by simp only [intOf]; omega⟩
        refine mem_rowI HM.out fun j => ?_
        by_cases hj : j = t + k
        · subst hj
          rw [if_pos rfl, if_pos (by omega), Nat.add_sub_cancel]
        · rw [if_neg hj]
          by_cases hj' : k ≤ j ∧ j < k + t
          · rw [if_pos hj', if_pos (by omega)]
          · rw [if_neg hj', if_neg (by omega)]
      · have hS : 256 - k ≤ t := by omega
        have HL := Lib.hid (lost_next m t (256 - k) hS)
        have er : (rowI fun j => if k ≤ j ∧ j < k + t then bit m (j - k) else 0) = rowI fun j => if k ≤ j ∧ j < k + (t + 1) then bit m (j - k) else 0 := rowI_congr fun j hj => by
          by_cases hj' : k ≤ j ∧ j < k + t
          · rw [if_pos hj', if_pos (by omega)]
          · rw [if_neg hj', if_neg (by omega)]
        rw [er] at HM F
        clear er
        obtain ⟨L, hL⟩ : ∃ L, L = decide (m % 2 ^ t / 2 ^ (256 - k) ≠ 0) := ⟨_, rfl⟩
        rw [← hL]
        have HL' := Lib.hid hL
        clear hL
        by_cases h1 : (k : Int) < 256
        · have h2 : ¬ ((t : Int) + (k : Int) < 256) := by omega
          have h3 : decide ((t : Int) + (k : Int) < 256) = false := decide_eq_false h2
          clear h2
          rcases L with _ | _
          · go_wp2
            exact ⟨⟨t + 1, by omega, by simp, by rw [HL.out, ← HL'.out]; rfl, HM.out⟩, by simp only [intOf]; omega⟩
          · go_wp2
            exact ⟨⟨t + 1, by omega, by simp, by rw [HL.out, ← HL'.out]; rfl, HM.out⟩, by simp only [intOf]; omega⟩
        · have h3 : decide ((k : Int) < 256) = false := decide_eq_false h1
          clear h1
          rcases L with _ | _
          · go_wp2
            exact ⟨⟨t + 1, by omega, by simp, by rw [HL.out, ← HL'.out]; rfl, HM.out⟩, by simp only [intOf]; omega⟩
          · go_wp2
            exact ⟨⟨t + 1, by omega, by simp, by rw [HL.out, ← HL'.out]; rfl, HM.out⟩, by simp only [intOf]; omega⟩
    · obtain rfl : t = 256 := by omega
      have er : (rowI fun j => if k ≤ j ∧ j < k + 256 then bit m (j - k) else 0) = rowI (bit (m * 2 ^ k % top)) := rowI_congr fun j hj => by
        rw [bit_shl m k j hj]
        by_cases hj' : k ≤ j
        · rw [if_pos hj', if_pos (by omega)]
        · rw [if_neg hj', if_neg (by omega)]
      rw [er] at M
      rw [lost_all m k hm]
      clear HM F er hge
      go_wp2_with (first
        | (refine wl_load rfl 145 _ rfl bitsT rfl (M.at 0 rfl) (rowI_size _) ?_)
        | (go_at_call 123; (with_reducible refine (number_c (m * 2 ^ k % top) hT _).mono ?_); rintro e w1 ⟨rfl, hb⟩; replace M := Mem.call (w0 := w0) (by repeat' (first | (with_reducible exact M) | (with_reducible apply Mem.drew) | (with_reducible apply Mem.alloc))) hb; clear hb; (try clear F); (try simp only [World.size_alloc] at M); (try simp only [heap_drew] at M); have F := Mem.facts M; simp only [MemFacts] at F; (try simp only [ApartFacts] at F)))
      have hc := fun j => cell_of_row _ _ j _ _ _ (put4_same (M.at 2 rfl) (.int .u64 (l0 (m * 2 ^ k % top))) (.int .u64 (l1 (m * 2 ^ k % top))) (.int .u64 (l2 (m * 2 ^ k % top))) (.int .u64 (l3 (m * 2 ^ k % top))))
      refine bodyPost_ret (v := .tuple #[uV (m * 2 ^ k % top), .bool (decide (top ≤ m * 2 ^ k))]) (by simp [results, Try.results125, go_sem, hc]) rfl ⟨rfl, ?_⟩
      exact Below.put4 M.below (by omega) _ _ _ _
theorem rshl_c (m : Nat) (hm : m < top) (n : Int) (w0 : World) :
    Calls Try.prog 125 #[uV m, .int .i64 n] w0 fun e w' => e = .returned (.tuple #[uV (m * 2 ^ n.toNat % top), .bool (decide (top ≤ m * 2 ^ n.toNat))]) ∧ Below w0.heap.size w0 w' :=
  rshl_n m hm n n.toNat (by omega) w0
theorem rof_c (x : Int) (h : Wd x) (w : World) :
    Calls Try.prog 73 #[.int .u64 x] w fun e w' => e = .returned (uV x.toNat) ∧ Below w.heap.size w w' := by
  have fin : Value.agg #[.int .u64 x, .int .u64 0, .int .u64 0, .int .u64 0] = uV x.toNat := by
    refine Is4.uV ⟨h, ⟨by decide, by decide⟩, ⟨by decide, by decide⟩, ⟨by decide, by decide⟩, ?_⟩
    have := h.lo
    omega
  rw [← fin]
  clear fin
  go_enter Try.func73, Try.ntmps73
  go_wp2
  refine bodyPost_ret (v := .agg #[.int .u64 x, .int .u64 0, .int .u64 0, .int .u64 0]) (by simp [results, Try.results73, go_sem]) rfl ⟨rfl, ?_⟩
  repeat' (first | (with_reducible exact Below.refl _ _) | (with_reducible assumption) | (with_reducible refine Below.drew ?_) | (with_reducible refine Below.alloc ?_ ?_ _) | (with_reducible refine Below.setCell ?_ ?_ _) | (with_reducible refine Flo.below_step ?_ (by assumption)) | (simp; done) | (simp; omega))
end Go.Proofs.Ytkgjgdeaclefiaa

/-! florinref01: Mul. -/
namespace Go.Proofs.Ytkgjgdeaclefiaa
open Go Go.Proofs Go.RowKit Go.Flo

theorem mul_lost {T A B : Nat} : (decide (T ≤ A) || decide (T ≤ B) || decide (T ≤ A % T + B % T)) = decide (T ≤ A + B) := by
  rw [Bool.eq_iff_iff]
  simp only [Bool.or_eq_true, decide_eq_true_eq]
  constructor
  · rintro ((h | h) | h)
    · omega
    · omega
    · have := Nat.mod_le A T; have := Nat.mod_le B T; omega
  · intro h
    by_cases ha : T ≤ A
    · exact .inl (.inl ha)
    · by_cases hb : T ≤ B
      · exact .inl (.inr hb)
      · rw [Nat.mod_eq_of_lt (by omega), Nat.mod_eq_of_lt (by omega)]
        exact .inr h
theorem k_bit (kn t : Nat) (hk : kn < 18446744073709551616) : bits .and .u64 ((kn : Int) / 2 ^ t) 1 = ((kn / 2 ^ t % 2 : Nat) : Int) := by
  rw [div_cast, show (1 : Int) = ((1 : Nat) : Int) from rfl, Go.u64_and_nat _ _ (Nat.lt_of_le_of_lt (Nat.div_le_self _ _) hk) (by decide), Nat.and_one_is_mod]

/-- Round t of Mul. -/
structure MulR (m kn : Nat) (S0 : Nat) (l : List It) (w0 : World) (v i : Value) (wr : World) (t : Nat) : Prop where
  le : t ≤ 64
  at_ : i = .int .i64 (t : Int)
  lost : v = .bool (decide (top ≤ m * (kn % 2 ^ t)))
  mem : Mem w0 wr (.c S0 #[.int .u64 (l0 (m * (kn % 2 ^ t) % top)), .int .u64 (l1 (m * (kn % 2 ^ t) % top)), .int .u64 (l2 (m * (kn % 2 ^ t) % top)), .int .u64 (l3 (m * (kn % 2 ^ t) % top))] 35 :: l)

set_option maxRecDepth 100000 in
set_option maxHeartbeats 4000000 in
theorem rmul_c (m kn : Nat) (hm : m < top) (hk : kn < 18446744073709551616) (w0 : World) :
    Calls Try.prog 66 #[uV m, .int .u64 (kn : Int)] w0 fun e w' => e = .returned (.tuple #[uV (m * kn % top), .bool (decide (top ≤ m * kn))]) ∧ Below w0.heap.size w0 w' := by
  have hT : 0 < top := Nat.lt_of_le_of_lt (Nat.zero_le _) hm
  have HM := Lib.hid hm
  have HK := Lib.hid hk
  have hk0 : (0 : Int) ≤ (kn : Int) := Int.natCast_nonneg kn
  clear hm hk
  have M := Mem.nil w0; have F := Mem.facts M; simp only [MemFacts] at F; (try simp only [ApartFacts] at F)
  go_enter Try.func66, Try.ntmps66
  go_wp2
  have z0 : l0 (m * (kn % 2 ^ 0) % top) = 0 ∧ l1 (m * (kn % 2 ^ 0) % top) = 0 ∧ l2 (m * (kn % 2 ^ 0) % top) = 0 ∧ l3 (m * (kn % 2 ^ 0) % top) = 0 := by
    rw [Nat.pow_zero, Nat.mod_one, Nat.mul_zero, Nat.zero_mod]
    unfold l0 l1 l2 l3
    exact ⟨rfl, rfl, rfl, rfl⟩
  go_loopw [7, 8] (fun v i wr => ∃ t, MulR m kn (w0.heap.size + 1 + 1) [.c (w0.heap.size + 1) #[.int .u64 0, .int .u64 0, .int .u64 0, .int .u64 0] 35, .c w0.heap.size #[.int .u64 (l0 m), .int .u64 (l1 m), .int .u64 (l2 m), .int .u64 (l3 m)] 35] w0 v i wr t) (fun _ i _ => (64 - intOf i).toNat)
  case atStart =>
    refine ⟨0, Nat.zero_le _, rfl, by rw [Nat.pow_zero, Nat.mod_one, Nat.mul_zero, decide_eq_false (by omega)], ?_⟩
    rw [z0.1, z0.2.1, z0.2.2.1, z0.2.2.2]
    repeat' (first | (with_reducible exact M) | (with_reducible apply Mem.drew) | (with_reducible refine Mem.alloc' ?_ ?_) | (simp; done))
  case round =>
    clear z0 M F
    obtain ⟨t, le, rfl, hv, M⟩ := hrel
    subst hv
    obtain ⟨s, hs⟩ : ∃ s, s = m * (kn % 2 ^ t) % top := ⟨_, rfl⟩
    obtain ⟨L, hL⟩ : ∃ L, L = decide (top ≤ m * (kn % 2 ^ t)) := ⟨_, rfl⟩
    rw [← hs] at M
    rw [← hL]
    have HS := Lib.hid hs
    have HL := Lib.hid hL
    clear hs hL
    have F := Mem.facts M; simp only [MemFacts] at F; (try simp only [ApartFacts] at F)
    rcases Nat.lt_or_ge t 64 with hlt | hge
    · have hb := Lib.hid (k_bit kn t HK.out)
      rcases Nat.mod_two_eq_zero_or_one (kn / 2 ^ t) with h | h
      · have h1 : bits .and .u64 ((kn : Int) / 2 ^ t) 1 = 0 := by have := hb.out; rw [h] at this; exact this
        have H := Lib.hid h
        clear h
        go_wp2
        have e : kn % 2 ^ (t + 1) = kn % 2 ^ t := by rw [Nat.mod_pow_succ, H.out]; omega
        exact ⟨⟨t + 1, by omega, by simp, by rw [e, ← HL.out], by rw [e, ← HS.out]; exact M⟩, by simp only [intOf]; omega⟩
      · have h1 : bits .and .u64 ((kn : Int) / 2 ^ t) 1 = 1 := by have := hb.out; rw [h] at this; exact this
        have H := Lib.hid h
        clear h
        obtain ⟨x, hx⟩ : ∃ x, x = m * 2 ^ t % top := ⟨_, rfl⟩
        obtain ⟨ov, hov⟩ : ∃ ov, ov = decide (top ≤ m * 2 ^ t) := ⟨_, rfl⟩
        obtain ⟨s', hs'⟩ : ∃ s', s' = (s + x) % top := ⟨_, rfl⟩
        obtain ⟨cy, hcy⟩ : ∃ cy, cy = decide (top ≤ s + x) := ⟨_, rfl⟩
        have C1 : ∀ w, Calls Try.prog 125 #[uV m, .int .i64 (t : Int)] w fun e w' => e = .returned (.tuple #[uV x, .bool ov]) ∧ Below w.heap.size w w' := fun w => by
          rw [hx, hov]; exact rshl_c m HM.out (t : Int) w
        have C2 : ∀ w, Calls Try.prog 63 #[uV s, uV x] w fun e w' => e = .returned (.tuple #[uV s', .bool cy]) ∧ Below w.heap.size w w' := fun w => by
          rw [hs', hcy]; exact radd_c s x (by rw [HS.out]; exact Nat.mod_lt _ hT) (by rw [hx]; exact Nat.mod_lt _ hT) w
        have e : m * (kn % 2 ^ (t + 1)) = m * (kn % 2 ^ t) + m * 2 ^ t := by rw [Nat.mod_pow_succ, H.out, Nat.mul_one, Nat.mul_add]
        have R1 : s' = m * (kn % 2 ^ (t + 1)) % top := by rw [hs', HS.out, hx, ← Nat.add_mod, e]
        have R2 : decide (top ≤ m * (kn % 2 ^ (t + 1))) = (L || ov || cy) := by rw [HL.out, hov, hcy, HS.out, hx, e, mul_lost]
        have R1 := Lib.hid R1
        have R2 := Lib.hid R2
        clear hx hov hs' hcy e
        rcases L with _ | _ <;> rcases ov with _ | _ <;> rcases cy with _ | _
        all_goals
          go_wp2_with (first | (go_at_call 125; (with_reducible refine (C1 _).mono ?_); rintro e w1 ⟨rfl, hb⟩; replace M := Mem.call (w0 := w0) (by repeat' (first | (with_reducible exact M) | (with_reducible apply Mem.drew) | (with_reducible apply Mem.alloc))) hb; clear hb; (try clear F); (try simp only [World.size_alloc] at M); (try simp only [heap_drew] at M); have F := Mem.facts M; simp only [MemFacts] at F; (try simp only [ApartFacts] at F)) | (go_at_call 63; (with_reducible refine (C2 _).mono ?_); rintro e w1 ⟨rfl, hb⟩; replace M := Mem.call (w0 := w0) (by repeat' (first | (with_reducible exact M) | (with_reducible apply Mem.drew) | (with_reducible apply Mem.alloc))) hb; clear hb; (try clear F); (try simp only [World.size_alloc] at M); (try simp only [heap_drew] at M); have F := Mem.facts M; simp only [MemFacts] at F; (try simp only [ApartFacts] at F)))
          exact ⟨⟨t + 1, by omega, by simp, by rw [R2.out]; rfl, ((M.put4 1 rfl _ _ _ _).alloc).pick [2, 3, 4] (by decide)⟩, by simp only [intOf]; omega⟩
    · obtain rfl : t = 64 := by omega
      rw [Nat.mod_eq_of_lt (show kn < 2 ^ 64 from HK.out)] at HS HL
      go_wp2
      have hc := fun j => cell_of_row _ _ j _ _ _ (put4_same (M.at 1 rfl) (.int .u64 (l0 s)) (.int .u64 (l1 s)) (.int .u64 (l2 s)) (.int .u64 (l3 s)))
      rw [← HL.out, ← HS.out]
      refine bodyPost_ret (v := .tuple #[uV s, .bool L]) (by simp [results, Try.results66, go_sem, hc]) rfl ⟨rfl, ?_⟩
      exact Below.put4 M.below (by omega) _ _ _ _
end Go.Proofs.Ytkgjgdeaclefiaa

/-! florinref01: FromBytes. -/
namespace Go.Proofs.Ytkgjgdeaclefiaa
open Go Go.Proofs Go.RowKit Go.Flo

theorem byte_step (n x : Nat) (hx : x < 256) : n * 256 ||| x = n * 256 + x := by
  have := Nat.two_pow_add_eq_or_of_lt (i := 8) (b := x) hx n
  rw [show (2 : Nat) ^ 8 = 256 from rfl, Nat.mul_comm] at this
  exact this.symm

structure RfbR (zs : List UInt8) (w0 : World) (i : Value) (wr : World) (t : Nat) : Prop where
  le : t ≤ zs.length
  at_ : i = .int .i64 (t : Int)
  mem : Mem w0 wr [.c (w0.heap.size + 1) #[.int .u64 (l0 (beN (zs.take t))), .int .u64 (l1 (beN (zs.take t))), .int .u64 (l2 (beN (zs.take t))), .int .u64 (l3 (beN (zs.take t)))] 35, .c w0.heap.size #[.int .u64 0, .int .u64 0, .int .u64 0, .int .u64 0] 35]

set_option maxRecDepth 100000 in
set_option maxHeartbeats 2000000 in
theorem rfrombytes_c (v : Value) (zs : List UInt8) (hl : zs.length ≤ 32) (w0 : World) (hI : Rd8 w0 v zs) :
    Calls Try.prog 78 #[v] w0 fun e w' => e = .returned (.tuple #[uV (beN zs), .int .i64 0]) ∧ Below w0.heap.size w0 w' := by
  obtain ⟨a, c, hv⟩ := hI.shape
  subst hv
  have hb : decide ((32 : Int) < (zs.length : Int)) = false := decide_eq_false (by omega)
  have M := Mem.nil w0; have F := Mem.facts M; simp only [MemFacts] at F; (try simp only [ApartFacts] at F)
  go_enter Try.func78, Try.ntmps78
  go_wp2
  go_loopw [5] (fun i wr => ∃ t, RfbR zs w0 i wr t) (fun i _ => (zs.length - intOf i).toNat)
  case atStart =>
    refine ⟨0, Nat.zero_le _, rfl, ?_⟩
    rw [List.take_zero, beN_nil, four0]
    repeat' (first | (with_reducible exact M) | (with_reducible apply Mem.drew) | (with_reducible refine Mem.alloc' ?_ ?_) | (simp; done))
  case round =>
    clear M F
    obtain ⟨t, le, rfl, M⟩ := hrel
    have F := Mem.facts M; simp only [MemFacts] at F; (try simp only [ApartFacts] at F)
    rcases Nat.lt_or_ge t zs.length with hlt | hge
    · obtain ⟨b, off, rfl, _, hblt, hcap, hcell⟩ := hI.cells (by omega)
      · have htk := take_snoc8 zs t hlt
        obtain ⟨n, hn⟩ : ∃ n, n = beN (zs.take t) := ⟨_, rfl⟩
        have hlen : (zs.take (t + 1)).length ≤ 32 := by rw [List.length_take]; omega
        have hn1 : beN (zs.take (t + 1)) = n * 256 + zs[t].toNat := by rw [htk, beN_snoc, ← hn]
        have hnt := beN_top hlen
        have hx8 := zs[t].toNat_lt
        have hsm : n * 2 ^ (8 : Int).toNat % top = n * 256 := Nat.mod_eq_of_lt (by rw [hn1] at hnt; show n * 256 < top; omega)
        have C1 : ∀ w, Calls Try.prog 125 #[uV n, .int .i64 8] w fun e w' => e = .returned (.tuple #[uV (n * 256), .bool (decide (top ≤ n * 256))]) ∧ Below w.heap.size w w' := fun w => by
          have := rshl_c n (by rw [hn1] at hnt; omega) 8 w
          rw [hsm] at this
          exact this
        have hc : wr.cell? ⟨b, off + t, none⟩ = some (.int .u8 (at8 zs t)) := (M.below.cell (p := ⟨b, off + t, none⟩) hblt).trans (hcell t hlt)
        have e4 := four_or (n * 256) zs[t].toNat (by omega)
        rw [byte_step n _ (by omega), ← hn1] at e4
        have E4 := Lib.hid e4
        have E8 := Lib.hid (at8_get hlt)
        have b0 := at8_lo zs t
        have b1 := at8_hi zs t
        have hlt' : (t : Int) < zs.length := by omega
        have hbl : b < wr.heap.size := Nat.lt_of_lt_of_le hblt M.size
        rw [← hn] at M F
        clear hcell hb htk hn hn1 hnt hsm hx8 hlen e4
        go_wp2_with (go_at_call 125; (with_reducible refine (C1 _).mono ?_); rintro e w1 ⟨rfl, hb⟩; have hcb := hb.cell (p := ⟨b, off + t, none⟩) hbl; rw [hc] at hcb; have hbl1 : b < w1.heap.size := Nat.lt_of_lt_of_le hbl hb.size; have hbl2 : b ≠ w1.heap.size := Nat.ne_of_lt hbl1; replace M := Mem.call (w0 := w0) (by repeat' (first | (with_reducible exact M) | (with_reducible apply Mem.drew) | (with_reducible apply Mem.alloc))) hb; clear hb; (try clear F); (try simp only [World.size_alloc] at M); (try simp only [heap_drew] at M); have F := Mem.facts M; simp only [MemFacts] at F; (try simp only [ApartFacts] at F))
        (refine Flo.wp_region_auto (fun _ => True) Flo.rd (by kernel_rfl) (by decide +kernel) (trivial) ?_; repeat (first | (refine Flo.au_skip (by exact rfl) (by exact rfl) ?_; simp only [Act.put, List.setIfInBounds_toArray, List.set_cons_zero, List.set_cons_succ]) | (refine Flo.au_free (by exact rfl) (by exact rfl) (by exact rfl) ?_; intro K hK; go_big_quiet_op; go_big_quiet_on) | (refine Flo.au_still (by exact rfl) (by exact rfl) (by exact rfl) ?_; intro K hK; go_simp; refine hK _ ?_; clear hK K) | (refine Flo.au_move (by exact rfl) (by exact rfl) ?_; intro K hK; go_wp2_with (fail); try (with_reducible refine ⟨rfl, trivial, ?_⟩)) | (refine Flo.mix_nil ?_)))
        go_wp2
        rw [E8.out]
        have M2 := (((M.put4 0 rfl (.int .u64 (bits .or .u64 (l0 (n * 256)) (zs[t].toNat : Int))) (.int .u64 (l1 (n * 256))) (.int .u64 (l2 (n * 256))) (.int .u64 (l3 (n * 256)))).alloc (cs := #[.int .u64 (bits .or .u64 (l0 (n * 256)) (zs[t].toNat : Int)), .int .u64 (l1 (n * 256)), .int .u64 (l2 (n * 256)), .int .u64 (l3 (n * 256))]) (t := 35)).drew).pick [1, 2] (by decide)
        have M3 : Mem w0 _ [.c (w0.heap.size + 1) #[.int .u64 (bits .or .u64 (l0 (n * 256)) (zs[t].toNat : Int)), .int .u64 (l1 (n * 256)), .int .u64 (l2 (n * 256)), .int .u64 (l3 (n * 256))] 35, .c w0.heap.size #[.int .u64 0, .int .u64 0, .int .u64 0, .int .u64 0] 35] := M2
        refine ⟨⟨t + 1, hlt, by simp, ?_⟩, by simp only [intOf]; omega⟩
        rw [← E4.out]
        exact M3
    · obtain rfl : t = zs.length := by omega
      rw [List.take_of_length_le (Nat.le_refl _)] at M F
      obtain ⟨n, hn⟩ : ∃ n, n = beN zs := ⟨_, rfl⟩
      rw [← hn] at M F
      have Hn := Lib.hid hn
      clear hn
      go_wp2
      rw [← Hn.out]
      (have hc := fun j => cell_of_row _ _ j _ _ _ ((M.put4 1 rfl (.int .u64 (l0 n)) (.int .u64 (l1 n)) (.int .u64 (l2 n)) (.int .u64 (l3 n))).at 1 rfl); refine bodyPost_ret (v := .tuple #[uV n, .int .i64 0]) (by simp [results, Try.results78, go_sem, hc]) rfl ⟨rfl, (M.put4 1 rfl _ _ _ _).below⟩)

set_option maxRecDepth 100000 in
set_option maxHeartbeats 2000000 in
theorem rfrombytes_big (v : Value) (zs : List UInt8) (hl : 32 < zs.length) (w : World) (hI : Rd8 w v zs) :
    Calls Try.prog 78 #[v] w fun e w' => e = .returned (.tuple #[uV 0, .int .i64 3]) ∧ Below w.heap.size w w' := by
  obtain ⟨a, c, hv⟩ := hI.shape
  subst hv
  have hb : decide ((32 : Int) < (zs.length : Int)) = true := decide_eq_true (by omega)
  clear hl
  go_enter Try.func78, Try.ntmps78
  go_wp2
  rw [← uV_zero]
  refine bodyPost_ret (v := .tuple #[.agg #[.int .u64 0, .int .u64 0, .int .u64 0, .int .u64 0], .int .i64 3]) (by simp [results, Try.results78, go_sem]) rfl ⟨rfl, ?_⟩
  repeat' (first | (with_reducible exact Below.refl _ _) | (with_reducible assumption) | (with_reducible refine Below.drew ?_) | (with_reducible refine Below.alloc ?_ ?_ _) | (with_reducible refine Below.setCell ?_ ?_ _) | (with_reducible refine Flo.below_step ?_ (by assumption)) | (simp; done) | (simp; omega))
end Go.Proofs.Ytkgjgdeaclefiaa

/-! florinref01: Hex. -/
namespace Go.Proofs.Ytkgjgdeaclefiaa
open Go Go.Proofs Go.RowKit Go.Flo

/-- Round t of Hex: g rounds are passed over. -/
structure RhxR (m K : Nat) (w0 : World) (v i : Value) (wr : World) (t : Nat) : Prop where
  le : t ≤ 64
  at_ : i = .int .i64 (252 - 4 * (t : Int))
  none : t ≤ 63 - K → v = .slice none 0 0
  mem : Mem w0 wr [.s v 5 1 (t - (63 - K)) ((hexL m K (t - (63 - K))).map (Value.int .u8)), .c w0.heap.size #[.int .u64 (l0 m), .int .u64 (l1 m), .int .u64 (l2 m), .int .u64 (l3 m)] 35]

theorem nib_word (m q p j : Nat) (hq : j / 16 = q) (hp : p = 4 * j % 64) : bits .and .u64 (li q m / 2 ^ p) 15 = ((m / 16 ^ j % 16 : Nat) : Int) := by
  have e : li q m / 2 ^ p = ((m / 2 ^ (64 * q) % 2 ^ 64 / 2 ^ p : Nat) : Int) := by
    unfold li
    rw [show ((2 : Int) ^ p) = ((2 ^ p : Nat) : Int) by simp]
    rfl
  rw [e, show (15 : Int) = ((15 : Nat) : Int) from rfl, Go.u64_and_nat _ _ (div_lt64 p (pow64 _)) (by decide)]
  congr 1
  rw [show (15 : Nat) = 2 ^ 4 - 1 from rfl, Nat.and_two_pow_sub_one_eq_mod, show (16 : Nat) ^ j = 2 ^ (4 * j) by rw [Nat.pow_mul], show (16 : Nat) = 2 ^ 4 from rfl]
  apply Nat.eq_of_testBit_eq
  intro k
  simp only [Nat.testBit_mod_two_pow, Nat.testBit_div_two_pow]
  by_cases hk : k < 4
  · have h1 : k + p < 64 := by omega
    have h2 : k + p + 64 * q = k + 4 * j := by omega
    simp [hk, h1, h2]
  · simp [hk]
/-- What the digits are ahead of, and at, the first one that is written. -/
theorem nib_zero (m j : Nat) (h : (lenN m - 1) / 4 < j) : m / 16 ^ j % 16 = 0 := by
  have h1 : m < 16 ^ j := by
    rw [show (16 : Nat) ^ j = 2 ^ (4 * j) by rw [Nat.pow_mul]]
    exact lenN_le.1 (by omega)
  rw [Nat.div_eq_of_lt h1]
theorem nib_first (m : Nat) (hm : m ≠ 0) : m / 16 ^ ((lenN m - 1) / 4) % 16 ≠ 0 := by
  have hlo := lenN_lo hm
  have hpos := Flo.lenN_pos hm
  have h1 : 16 ^ ((lenN m - 1) / 4) ≤ m := by
    rw [show (16 : Nat) ^ ((lenN m - 1) / 4) = 2 ^ (4 * ((lenN m - 1) / 4)) by rw [Nat.pow_mul]]
    exact Nat.le_trans (Nat.pow_le_pow_right (by decide) (by omega)) hlo
  have h2 : m < 16 ^ ((lenN m - 1) / 4) * 16 := by
    rw [← Nat.pow_succ, show (16 : Nat) ^ ((lenN m - 1) / 4 + 1) = 2 ^ (4 * ((lenN m - 1) / 4 + 1)) by rw [Nat.pow_mul]]
    exact lenN_le.1 (by omega)
  have hp : 0 < 16 ^ ((lenN m - 1) / 4) := Nat.pow_pos (by decide)
  have h3 : m / 16 ^ ((lenN m - 1) / 4) < 16 := (Nat.div_lt_iff_lt_mul hp).2 (by rw [Nat.mul_comm]; exact h2)
  have h4 : 0 < m / 16 ^ ((lenN m - 1) / 4) := Nat.div_pos h1 hp
  rw [Nat.mod_eq_of_lt h3]
  omega

set_option maxRecDepth 100000 in
set_option maxHeartbeats 4000000 in
theorem rhex_c (m : Nat) (hm : m < top) (w0 : World) :
    Calls Try.prog 84 #[uV m] w0 fun e w' => e = .returned (.string (hexS m)) ∧ Below w0.heap.size w0 w' := by
  obtain ⟨K, hK, hK63, hL, eK⟩ := hexK m hm
  clear eK hL
  obtain ⟨i0, hi, hz0, hz1, hz2⟩ : ∃ i : TypeInfo, Try.prog.info? 5 = some i ∧ i.zero = some (.int .u8 0) ∧ i.size = 1 ∧ i.bytes = 1 := ⟨_, rfl, rfl, rfl, rfl⟩
  have M := Mem.nil w0; have F := Mem.facts M; simp only [MemFacts] at F; (try simp only [ApartFacts] at F)
  go_enter Try.func84, Try.ntmps84
  go_wp2
  replace M := Mem.allocS (Mem.alloc M (cs := #[.int .u64 (l0 m), .int .u64 (l1 m), .int .u64 (l2 m), .int .u64 (l3 m)]) (t := 35)) 5 1
  go_loopw [4, 5] (fun v i wr => ∃ t, RhxR m K w0 v i wr t) (fun _ i _ => (intOf i + 4).toNat)
  case atStart =>
    exact ⟨0, Nat.zero_le _, rfl, fun _ => rfl, by rw [Nat.zero_sub]; exact M⟩
  case round =>
    clear M F
    obtain ⟨t, le, rfl, hnone, M⟩ := hrel
    have F := Mem.facts M; simp only [MemFacts] at F; (try simp only [ApartFacts] at F)
    rcases Nat.lt_or_ge t 64 with hlt | hge
    · obtain ⟨j, hj⟩ : ∃ j, j = 63 - t := ⟨_, rfl⟩
      have ei : (252 - 4 * (t : Int)) = 4 * (j : Int) := by omega
      rw [ei]
      obtain ⟨p, hp⟩ : ∃ p, p = 4 * j % 64 := ⟨_, rfl⟩
      have hp' : 4 * (j : Int) % 64 = (p : Int) := by omega
      obtain ⟨d, hd⟩ : ∃ d, d = m / 16 ^ j % 16 := ⟨_, rfl⟩
      have d16 : d < 16 := by omega
      have hq : (j / 16 = 0 ∧ 4 * (j : Int) / 64 = 0) ∨ (j / 16 = 1 ∧ 4 * (j : Int) / 64 = 1) ∨ (j / 16 = 2 ∧ 4 * (j : Int) / 64 = 2) ∨ (j / 16 = 3 ∧ 4 * (j : Int) / 64 = 3) := by omega
      have hw := nib_word m (j / 16) p j rfl hp
      rw [← hd] at hw
      have Hd := Lib.hid hd
      have Hj := Lib.hid hj
      have p64 : p < 64 := by omega
      obtain ⟨a, c, hv⟩ := M.shape 0 rfl
      have HM := Lib.hid M
      clear hp hd hj ei M
      rcases Nat.lt_trichotomy t (63 - K) with h | h | h
      · -- nothing yet
        have hd0 : d = 0 := by rw [Hd.out]; exact nib_zero m j (by rw [← hK.out, Hj.out]; omega)
        have hv0 := hnone (by omega)
        subst hd0
        subst hv0
        have hj0 : (4 * (j : Int) == 0) = false := by rw [beq_eq_false_iff_ne]; have := Hj.out; omega
        clear hv hnone
        rcases hq with ⟨hq, hqi⟩ | ⟨hq, hqi⟩ | ⟨hq, hqi⟩ | ⟨hq, hqi⟩
        all_goals
          rw [hq] at hw
          first | rw [← l0_li] at hw | rw [← l1_li] at hw | rw [← l2_li] at hw | rw [← l3_li] at hw
          clear hq
        all_goals
          go_wp2
          refine ⟨⟨t + 1, by omega, by congr 1; have := Hj.out; omega, fun _ => rfl, ?_⟩, by simp only [intOf]; omega⟩
          rw [show t + 1 - (63 - K) = t - (63 - K) by omega]
          exact HM.out
      · -- the first digit
        have hv0 := hnone (by omega)
        subst hv0
        have hjK : j = K := by have := Hj.out; omega
        by_cases hm0 : m = 0
        · have hK0 : K = 0 := by have := hK.out; rw [hm0, Flo.lenN_zero] at this; omega
          have hj0 : j = 0 := by omega
          have hd0 : d = 0 := by rw [Hd.out, hm0]; simp
          have hd1 : ((d : Int) != 0) = false := by rw [bne_eq_false_iff_eq]; omega
          have hd2 : ((d : Int) == 0) = true := by rw [beq_iff_eq]; omega
          have hj1 : (4 * (j : Int) == 0) = true := by rw [beq_iff_eq]; omega
          clear hv hnone hm0 hK0 hj0 hd0 hjK
          rcases hq with ⟨hq, hqi⟩ | ⟨hq, hqi⟩ | ⟨hq, hqi⟩ | ⟨hq, hqi⟩
          all_goals
            rw [hq] at hw
            first | rw [← l0_li] at hw | rw [← l1_li] at hw | rw [← l2_li] at hw | rw [← l3_li] at hw
            clear hq
            go_wp2_with (at_builtin; refine wl_append _ 1 (Mem.alloc HM.out) rfl rfl _ _ 42 rfl i0 (.int .u8 0) 1 Try.underlying42 hi hz0 hz1 hz2 rfl (by decide) rfl ⟨wr.heap.size, 0, none⟩ 1 1 [.int .u8 (sgn d)] rfl rfl ?c1 ?c2 ?c3 ?c4 ?_)
            case c1 =>
              intro k u hk
              match k, hk with
              | 0, hk => simp at hk; subst hk; rw [← sgn_get d d16 (by exact d16)]; simp [Addr.add, go_sem]
            case c2 => intro u hu; simp at hu; subst hu; rfl
            case c3 => unfold maxLen; omega
            case c4 => omega
            intro v' w2 M2
            have R : RhxR m K w0 v' (.int .i64 (4 * (j : Int) - 4)) w2 (t + 1) := by
              have hj := Hj.out
              refine ⟨by omega, by congr 1; omega, fun h => by omega, ?_⟩
              have e1 : t + 1 - (63 - K) = 0 + 1 := by omega
              have e2 : K - 0 = j := by omega
              rw [e1, hexL_succ, e2, List.map_append, ← Hd.out]
              exact M2.pick [1, 2] (by decide)
            clear M2
            go_wp2
            exact ⟨⟨_, R⟩, by simp only [intOf]; omega⟩
        · have hd0 : d ≠ 0 := by rw [Hd.out, hjK, hK.out]; exact nib_first m hm0
          have hd1 : ((d : Int) != 0) = true := by rw [bne_iff_ne]; omega
          have hd2 : ((d : Int) == 0) = false := by rw [beq_eq_false_iff_ne]; omega
          clear hv hnone hm0 hd0 hjK
          rcases hq with ⟨hq, hqi⟩ | ⟨hq, hqi⟩ | ⟨hq, hqi⟩ | ⟨hq, hqi⟩
          all_goals
            rw [hq] at hw
            first | rw [← l0_li] at hw | rw [← l1_li] at hw | rw [← l2_li] at hw | rw [← l3_li] at hw
            clear hq
            go_wp2_with (at_builtin; refine wl_append _ 1 (Mem.alloc HM.out) rfl rfl _ _ 42 rfl i0 (.int .u8 0) 1 Try.underlying42 hi hz0 hz1 hz2 rfl (by decide) rfl ⟨wr.heap.size, 0, none⟩ 1 1 [.int .u8 (sgn d)] rfl rfl ?c1 ?c2 ?c3 ?c4 ?_)
            case c1 =>
              intro k u hk
              match k, hk with
              | 0, hk => simp at hk; subst hk; rw [← sgn_get d d16 (by exact d16)]; simp [Addr.add, go_sem]
            case c2 => intro u hu; simp at hu; subst hu; rfl
            case c3 => unfold maxLen; omega
            case c4 => omega
            intro v' w2 M2
            have R : RhxR m K w0 v' (.int .i64 (4 * (j : Int) - 4)) w2 (t + 1) := by
              have hj := Hj.out
              refine ⟨by omega, by congr 1; omega, fun h => by omega, ?_⟩
              have e1 : t + 1 - (63 - K) = 0 + 1 := by omega
              have e2 : K - 0 = j := by omega
              rw [e1, hexL_succ, e2, List.map_append, ← Hd.out]
              exact M2.pick [1, 2] (by decide)
            clear M2
            go_wp2
            exact ⟨⟨_, R⟩, by simp only [intOf]; omega⟩
      · obtain ⟨n, hn⟩ : ∃ n, n = t - (63 - K) := ⟨_, rfl⟩
        rw [← hn] at hv HM
        have hn0 : (0 : Int) < (n : Int) := by omega
        have hn64 : n ≤ 64 := by omega
        have Hn := Lib.hid hn
        have HT := Lib.hid h
        subst hv
        clear hnone hn h
        rcases (show d = 0 ∨ d ≠ 0 by omega) with hd0 | hd0
        all_goals
          first
            | (have hd1 : ((d : Int) != 0) = false := by rw [bne_eq_false_iff_eq]; omega
               have hd2 : ((d : Int) == 0) = true := by rw [beq_iff_eq]; omega
               clear hd0)
            | (have hd1 : ((d : Int) != 0) = true := by rw [bne_iff_ne]; omega
               have hd2 : ((d : Int) == 0) = false := by rw [beq_eq_false_iff_ne]; omega
               clear hd0)
          rcases hq with ⟨hq, hqi⟩ | ⟨hq, hqi⟩ | ⟨hq, hqi⟩ | ⟨hq, hqi⟩
          all_goals
            rw [hq] at hw
            first | rw [← l0_li] at hw | rw [← l1_li] at hw | rw [← l2_li] at hw | rw [← l3_li] at hw
            clear hq
            go_wp2_with (at_builtin; refine wl_append _ 1 (Mem.alloc HM.out) rfl rfl _ _ 42 rfl i0 (.int .u8 0) 1 Try.underlying42 hi hz0 hz1 hz2 rfl (by decide) rfl ⟨wr.heap.size, 0, none⟩ 1 1 [.int .u8 (sgn d)] rfl rfl ?c1 ?c2 ?c3 ?c4 ?_)
            case c1 =>
              intro k u hk
              match k, hk with
              | 0, hk => simp at hk; subst hk; rw [← sgn_get d d16 (by exact d16)]; simp [Addr.add, go_sem]
            case c2 => intro u hu; simp at hu; subst hu; rfl
            case c3 => unfold maxLen; omega
            case c4 => omega
            intro v' w2 M2
            have R : RhxR m K w0 v' (.int .i64 (4 * (j : Int) - 4)) w2 (t + 1) := by
              have hj := Hj.out
              have hn := Hn.out
              have ht := HT.out
              refine ⟨by omega, by congr 1; omega, fun h => by omega, ?_⟩
              have e1 : t + 1 - (63 - K) = n + 1 := by omega
              have e2 : K - n = j := by omega
              rw [e1, hexL_succ, e2, List.map_append, ← Hd.out]
              exact M2.pick [1, 2] (by decide)
            clear M2
            go_wp2
            exact ⟨⟨_, R⟩, by simp only [intOf]; omega⟩
    · obtain rfl : t = 64 := by omega
      have ei : (252 : Int) - 4 * ((64 : Nat) : Int) = -4 := rfl
      rw [ei]
      rw [show 64 - (63 - K) = K + 1 by omega] at M
      have hconv := own_string Try.underlying42 Try.underlying5 Try.underlying9 (M.items.get (i := 0) rfl) (by omega)
      have B2 := M.below
      go_wp2
      refine bodyPost_ret (v := .string (hexS m)) (by simp [results, Try.results84, go_sem, hexS, hK.out]) rfl ⟨rfl, B2⟩
end Go.Proofs.Ytkgjgdeaclefiaa

/-! florinref01: FromHex. -/
namespace Go.Proofs.Ytkgjgdeaclefiaa
open Go Go.Proofs Go.RowKit Go.Flo

structure RfhA (s : ByteArray) (w0 : World) (i : Value) (wr : World) (t : Nat) : Prop where
  le : t ≤ s.size
  at_ : i = .int .i64 (t : Int)
  all : (s.data.toList.take t).all isHex = true
  mem : Mem w0 wr [.c w0.heap.size #[.int .u64 0, .int .u64 0, .int .u64 0, .int .u64 0] 35]
structure RfhB (s : ByteArray) (b : Nat) (w0 : World) (i : Value) (wr : World) (t : Nat) : Prop where
  le : t ≤ s.size
  at_ : i = .int .i64 (t : Int)
  small : hexN (s.data.toList.take t) < top
  mem : Mem w0 wr [.c b #[.int .u64 (l0 (hexN (s.data.toList.take t))), .int .u64 (l1 (hexN (s.data.toList.take t))), .int .u64 (l2 (hexN (s.data.toList.take t))), .int .u64 (l3 (hexN (s.data.toList.take t)))] 35, .c w0.heap.size #[.int .u64 0, .int .u64 0, .int .u64 0, .int .u64 0] 35]

theorem hexN_take_le (l : List UInt8) : ∀ k, hexN (l.take k) ≤ hexN (l.take (k + 1)) := fun k => by
  rcases Nat.lt_or_ge k l.length with h | h
  · rw [take_snoc8 l k h, hexN_snoc]; omega
  · rw [List.take_of_length_le h, List.take_of_length_le (by omega)]; exact Nat.le_refl _
theorem hexN_mono (l : List UInt8) (k : Nat) : ∀ j, hexN (l.take k) ≤ hexN (l.take (k + j))
  | 0 => Nat.le_refl _
  | j + 1 => Nat.le_trans (hexN_mono l k j) (hexN_take_le l (k + j))
theorem hexN_all (l : List UInt8) (k : Nat) : hexN (l.take k) ≤ hexN l := by
  have := hexN_mono l k l.length
  rwa [List.take_of_length_le (by omega : l.length ≤ k + l.length)] at this

set_option maxRecDepth 100000 in
set_option maxHeartbeats 4000000 in
theorem rfromhex_c (s : ByteArray) (hs : s.size ≤ 1000000) (w0 : World) :
    Calls Try.prog 80 #[.string s] w0 fun e w' => e = .returned (.tuple #[uV (parseHex s.data.toList).1, .int .i64 (parseHex s.data.toList).2]) ∧ Below w0.heap.size w0 w' := by
  have hT : 0 < top := Nat.lt_trans (by decide) top_big
  by_cases h0 : s.size = 0
  · have hd : s.data.toList = [] := List.eq_nil_of_length_eq_zero (by simpa using h0)
    have Ep : Hid (parseHex s.data.toList = (0, 2)) := by unfold parseHex; rw [if_pos (.inl hd)]; rfl
    clear hd
    have M := Mem.nil w0; have F := Mem.facts M; simp only [MemFacts] at F; (try simp only [ApartFacts] at F)
    go_enter Try.func80, Try.ntmps80
    go_wp2
    replace M := Mem.alloc M (cs := #[.int .u64 0, .int .u64 0, .int .u64 0, .int .u64 0]) (t := 35)
    rw [Ep.out, ← uV_zero]
    refine bodyPost_ret (v := .tuple #[.agg #[.int .u64 0, .int .u64 0, .int .u64 0, .int .u64 0], .int .i64 2]) (by simp [results, Try.results80, go_sem]) rfl ⟨rfl, M.below⟩
  · have hb0 : ((s.size : Int) == 0) = false := by rw [beq_eq_false_iff_ne]; omega
    have hne : s.data.toList ≠ [] := fun h => h0 (by have := congrArg List.length h; simpa using this)
    have Hne := Lib.hid hne
    clear h0 hne
    have M := Mem.nil w0; have F := Mem.facts M; simp only [MemFacts] at F; (try simp only [ApartFacts] at F)
    go_enter Try.func80, Try.ntmps80
    go_wp2
    replace M := Mem.alloc M (cs := #[.int .u64 0, .int .u64 0, .int .u64 0, .int .u64 0]) (t := 35)
    go_loopw [4] (fun i wr => ∃ t, RfhA s w0 i wr t) (fun i _ => (s.size - intOf i).toNat)
    case atStart => exact ⟨0, Nat.zero_le _, rfl, rfl, M⟩
    case round =>
      clear M F
      obtain ⟨t, le, rfl, hall, M⟩ := hrel
      have F := Mem.facts M; simp only [MemFacts] at F; (try simp only [ApartFacts] at F)
      have Hall := Lib.hid hall
      clear hall
      rcases Nat.lt_or_ge t s.size with hlt | hge
      · have htk : s.data.toList.take (t + 1) = s.data.toList.take t ++ [s[t]] := take_snoc8 _ t (by simpa using hlt)
        have hlt' : (t : Int) < s.size := by omega
        cases hd : hexd s[t].toNat with
        | some d =>
          have ea : (s.data.toList.take (t + 1)).all isHex = true := by
            rw [htk, List.all_append, Hall.out]
            simp [isHex, hd]
          have Ea := Lib.hid ea
          clear ea
          have Hd := Lib.hid hd
          clear hd htk
          go_wp2_with (first | (go_at_call 128; (with_reducible refine ((rdigit_some _ d Hd.out) _).mono ?_); rintro e w1 ⟨rfl, hb⟩; replace M := Mem.call (w0 := w0) (by repeat' (first | (with_reducible exact M) | (with_reducible apply Mem.drew) | (with_reducible apply Mem.alloc))) hb; clear hb; (try clear F); (try simp only [World.size_alloc] at M); (try simp only [heap_drew] at M); have F := Mem.facts M; simp only [MemFacts] at F; (try simp only [ApartFacts] at F)))
          exact ⟨⟨t + 1, hlt, by simp, Ea.out, M⟩, by simp only [intOf]; omega⟩
        | none =>
          have hbad : ¬ s.data.toList.all isHex = true := fun h => by
            have := List.all_eq_true.1 h s[t] (List.getElem_mem (l := s.data.toList) (n := t) (by simpa using hlt))
            rw [isHex, hd] at this
            cases this
          have Ep : Hid (parseHex s.data.toList = (0, 2)) := by unfold parseHex; rw [if_pos (.inr hbad)]; rfl
          have Hd := Lib.hid hd
          clear hd htk hbad
          go_wp2_with (first | (go_at_call 128; (with_reducible refine ((rdigit_none _ Hd.out) _).mono ?_); rintro e w1 ⟨rfl, hb⟩; replace M := Mem.call (w0 := w0) (by repeat' (first | (with_reducible exact M) | (with_reducible apply Mem.drew) | (with_reducible apply Mem.alloc))) hb; clear hb; (try clear F); (try simp only [World.size_alloc] at M); (try simp only [heap_drew] at M); have F := Mem.facts M; simp only [MemFacts] at F; (try simp only [ApartFacts] at F)))
          rw [Ep.out, ← uV_zero]
          (have hc := fun j => cell_of_row _ _ j _ _ _ ((M.put4 0 rfl (.int .u64 (0)) (.int .u64 (0)) (.int .u64 (0)) (.int .u64 (0))).at 0 rfl); refine bodyPost_ret (v := .tuple #[.agg #[.int .u64 0, .int .u64 0, .int .u64 0, .int .u64 0], .int .i64 2]) (by simp [results, Try.results80, go_sem, hc]) rfl ⟨rfl, (M.put4 0 rfl _ _ _ _).below⟩)
      · obtain rfl : t = s.size := by omega
        have hA := Hall.out
        rw [List.take_of_length_le (by simp)] at hA
        have HA := Lib.hid hA
        clear Hall hA hge le
        go_wp2
        replace M := Mem.alloc M (cs := #[.int .u64 0, .int .u64 0, .int .u64 0, .int .u64 0]) (t := 35)
        obtain ⟨b, hb⟩ : ∃ b, b = wr.heap.size := ⟨_, rfl⟩
        rw [← hb] at M
        clear F
        go_loopw [6] (fun i wr => ∃ t, RfhB s b w0 i wr t) (fun i _ => (s.size - intOf i).toNat)
        case atStart =>
          refine ⟨0, Nat.zero_le _, rfl, by rw [List.take_zero, hexN_nil]; exact hT, ?_⟩
          rw [List.take_zero, hexN_nil, four0]
          exact M
        case round =>
          clear M
          rw [← hb]
          clear hb
          obtain ⟨t, le, rfl, hsm, M⟩ := hrel
          have F := Mem.facts M; simp only [MemFacts] at F; (try simp only [ApartFacts] at F)
          obtain ⟨n, hn⟩ : ∃ n, n = hexN (s.data.toList.take t) := ⟨_, rfl⟩
          rw [← hn] at hsm M F
          have Hsm := Lib.hid hsm
          rcases Nat.lt_or_ge t s.size with hlt | hge
          · have htk : s.data.toList.take (t + 1) = s.data.toList.take t ++ [s[t]] := take_snoc8 _ t (by simpa using hlt)
            have hlt' : (t : Int) < s.size := by omega
            cases hd : hexd s[t].toNat with
            | none =>
              have := List.all_eq_true.1 HA.out s[t] (List.getElem_mem (l := s.data.toList) (n := t) (by simpa using hlt))
              rw [isHex, hd] at this
              cases this
            | some d =>
              have d16 := hexd_lt hd
              have hv : hexv s[t] = d := by unfold hexv; rw [hd]; rfl
              have en : hexN (s.data.toList.take (t + 1)) = n * 16 + d := by rw [htk, hexN_snoc, ← hn, hv]
              have st := hex_step n d d16
              rw [Nat.mod_eq_of_lt hsm, decide_eq_false (by omega : ¬ top ≤ n), Bool.false_or] at st
              obtain ⟨x, hx⟩ : ∃ x, x = n * 16 % top := ⟨_, rfl⟩
              obtain ⟨ov, hov⟩ : ∃ ov, ov = decide (top ≤ n * 16) := ⟨_, rfl⟩
              have C1 : ∀ w, Calls Try.prog 125 #[uV n, .int .i64 4] w fun e w' => e = .returned (.tuple #[uV x, .bool ov]) ∧ Below w.heap.size w w' := fun w => by
                rw [hx, hov]; exact rshl_c n Hsm.out 4 w
              rw [← hx, ← hov, ← en] at st
              have Hd := Lib.hid hd
              have Hn := Lib.hid hn
              have hall := hexN_all s.data.toList (t + 1)
              clear hsm hn hd htk hv en hx hov
              rcases ov with _ | _
              · have hsm1 : hexN (s.data.toList.take (t + 1)) < top := by
                  have := of_decide_eq_false st.2.symm
                  omega
                have e4 := four_or x d (by omega)
                rw [st.1, Nat.mod_eq_of_lt hsm1] at e4
                have E4 := Lib.hid e4
                have Hsm1 := Lib.hid hsm1
                clear e4 hsm1 st hall
                go_wp2_with (go_at_call 125; (with_reducible refine (C1 _).mono ?_); rintro e w1 ⟨rfl, hb⟩; replace M := Mem.call (w0 := w0) (by repeat' (first | (with_reducible exact M) | (with_reducible apply Mem.drew) | (with_reducible apply Mem.alloc))) hb; clear hb; (try clear F); (try simp only [World.size_alloc] at M); (try simp only [heap_drew] at M); have F := Mem.facts M; simp only [MemFacts] at F; (try simp only [ApartFacts] at F))
                ((try simp only [List.append_eq, List.cons_append, List.nil_append]); refine Flo.N.wp_made (by kernel_rfl) (by decide +kernel) ?_; (repeat (first | (refine Flo.N.sx_skip (by exact rfl) (by exact rfl) ?_; simp only [Act.put, List.setIfInBounds_toArray, List.set_cons_zero, List.set_cons_succ]) | (refine Flo.N.sx_pure (by exact rfl) (by exact rfl) (by exact rfl) ?_; intro K hK; go_big_quiet_op; go_big_quiet_on) | (refine Flo.N.sx_free (by exact rfl) (by exact rfl) (by exact rfl) (by exact rfl) ?_; intro K hK; go_big_quiet_op; go_big_quiet_on) | (apply Flo.N.sx_alloc (by exact rfl) (by exact rfl); (focus (intro w; go_simp; first | done | exact rfl | exact ⟨rfl, rfl⟩)); intro b hn hfr; (try have hne := Flo.Fresh.ne hfr); simp only [Act.put, List.setIfInBounds_toArray, List.set_cons_zero, List.set_cons_succ]) | (apply Flo.N.sx_build _ (by exact rfl) (by exact rfl); (focus (intro w; go_simp; first | done | exact rfl | exact ⟨rfl, rfl⟩)); intro b hn hfr; (try have hne := Flo.Fresh.ne hfr); simp only [Act.put, List.setIfInBounds_toArray, List.set_cons_zero, List.set_cons_succ]) | (apply Flo.N.sx_give (by exact rfl) (by exact rfl); (focus (intro w hbW hh; apply Flo.gives_of; intro G hG; go_simp; apply hG _ _ (by kernel_rfl); clear hG G; first | (with_reducible exact (rdigit_some _ d Hd.out) _))); simp only [Act.put, List.setIfInBounds_toArray, List.set_cons_zero, List.set_cons_succ]) | (refine Flo.N.sx_last (by exact rfl) (by exact rfl) ?_; intro w2 hJ K hK; first | (have hJ : Flo.Holds _ _ _ _ := hJ; (try have HJB := Lib.hid hJ.below); (first | (have hu1 := Flo.Holds.uncover (by exact rfl) hJ; have hu2 := Flo.Holds.uncover (by exact rfl) hu1.2; replace M := Flo.N.got2 (w0 := w0) (by repeat' (first | (with_reducible exact M) | (with_reducible apply Mem.drew) | (with_reducible apply Mem.alloc))) hJ.below hu2.1 hu1.1 hne; clear hu1 hu2) | (have hu1 := Flo.Holds.uncover (by exact rfl) hJ; replace M := Mem.got (w0 := w0) (x := .c _ _ _) (by repeat' (first | (with_reducible exact M) | (with_reducible apply Mem.drew) | (with_reducible apply Mem.alloc))) hJ.below hu1.1; clear hu1) | (replace M := Mem.call (w0 := w0) (by repeat' (first | (with_reducible exact M) | (with_reducible apply Mem.drew) | (with_reducible apply Mem.alloc))) hJ.below) | (have hB2 := hJ.below)); clear hJ; (try clear F); (try simp only [World.size_alloc] at M); (try simp only [heap_drew] at M); (try (have F := Mem.facts M; simp only [MemFacts] at F; (try simp only [ApartFacts] at F))); go_wp2_with (fail); (try refine ⟨rfl, ?_⟩)) | (have hJ : w2 = _ := hJ; subst hJ; go_wp2_with (fail); (try refine ⟨rfl, ?_⟩))))); (first | (refine Flo.N.sx_end ?_) | (refine Flo.N.sx_nil ?_; intro w2 hJ; (try have HJB := Lib.hid hJ.below); (first | (have hu1 := Flo.Holds.uncover (by exact rfl) hJ; have hu2 := Flo.Holds.uncover (by exact rfl) hu1.2; replace M := Flo.N.got2 (w0 := w0) (by repeat' (first | (with_reducible exact M) | (with_reducible apply Mem.drew) | (with_reducible apply Mem.alloc))) hJ.below hu2.1 hu1.1 hne; clear hu1 hu2) | (have hu1 := Flo.Holds.uncover (by exact rfl) hJ; replace M := Mem.got (w0 := w0) (x := .c _ _ _) (by repeat' (first | (with_reducible exact M) | (with_reducible apply Mem.drew) | (with_reducible apply Mem.alloc))) hJ.below hu1.1; clear hu1) | (replace M := Mem.call (w0 := w0) (by repeat' (first | (with_reducible exact M) | (with_reducible apply Mem.drew) | (with_reducible apply Mem.alloc))) hJ.below) | (have hB2 := hJ.below)); clear hJ; (try clear F); (try simp only [World.size_alloc] at M); (try simp only [heap_drew] at M); (try (have F := Mem.facts M; simp only [MemFacts] at F; (try simp only [ApartFacts] at F))))))
                go_wp2
                refine ⟨⟨t + 1, hlt, by simp, Hsm1.out, ?_⟩, by simp only [intOf]; omega⟩
                rw [← E4.out]
                exact (((M.put 0 rfl 0 (.int .u64 (bits .or .u64 (l0 x) (d : Int)))).put4 1 rfl (.int .u64 (bits .or .u64 (l0 x) (d : Int))) (.int .u64 (l1 x)) (.int .u64 (l2 x)) (.int .u64 (l3 x)))).pick [1, 2] (by decide)
              · have hbig : top ≤ hexN (s.data.toList.take (t + 1)) := of_decide_eq_true st.2.symm
                have hor : ¬ (s.data.toList = [] ∨ ¬ s.data.toList.all isHex = true) := fun h => h.elim Hne.out (fun h => h HA.out)
                have Ep : Hid (parseHex s.data.toList = (0, 3)) := by unfold parseHex; rw [if_neg hor, if_pos (Nat.le_trans hbig hall)]; rfl
                clear st hall hbig hor
                go_wp2_with (go_at_call 125; (with_reducible refine (C1 _).mono ?_); rintro e w1 ⟨rfl, hb⟩; replace M := Mem.call (w0 := w0) (by repeat' (first | (with_reducible exact M) | (with_reducible apply Mem.drew) | (with_reducible apply Mem.alloc))) hb; clear hb; (try clear F); (try simp only [World.size_alloc] at M); (try simp only [heap_drew] at M); have F := Mem.facts M; simp only [MemFacts] at F; (try simp only [ApartFacts] at F))
                rw [Ep.out, ← uV_zero]
                have M2 := (M.put4 1 rfl (.int .u64 0) (.int .u64 0) (.int .u64 0) (.int .u64 0)).alloc (cs := #[.int .u64 (l0 x), .int .u64 (l1 x), .int .u64 (l2 x), .int .u64 (l3 x)]) (t := 35)
                have hc := fun j => cell_of_row _ _ j _ _ _ (M2.at 2 rfl)
                refine bodyPost_ret (v := .tuple #[.agg #[.int .u64 0, .int .u64 0, .int .u64 0, .int .u64 0], .int .i64 3]) (by simp [results, Try.results80, go_sem, hc]) rfl ⟨rfl, M2.below⟩
          · obtain rfl : t = s.size := by omega
            rw [List.take_of_length_le (by simp)] at hn
            have hor : ¬ (s.data.toList = [] ∨ ¬ s.data.toList.all isHex = true) := fun h => h.elim Hne.out (fun h => h HA.out)
            have Ep : Hid (parseHex s.data.toList = (n, 0)) := by unfold parseHex; rw [if_neg hor, ← hn, if_neg (by omega)]; rfl
            clear hn hor hsm
            go_wp2
            rw [Ep.out]
            (have hc := fun j => cell_of_row _ _ j _ _ _ ((M.put4 1 rfl (.int .u64 (l0 n)) (.int .u64 (l1 n)) (.int .u64 (l2 n)) (.int .u64 (l3 n))).at 1 rfl); refine bodyPost_ret (v := .tuple #[uV n, .int .i64 0]) (by simp [results, Try.results80, go_sem, hc]) rfl ⟨rfl, (M.put4 1 rfl _ _ _ _).below⟩)
end Go.Proofs.Ytkgjgdeaclefiaa
