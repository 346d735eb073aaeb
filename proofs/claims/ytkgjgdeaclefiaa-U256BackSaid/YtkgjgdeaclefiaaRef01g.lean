/-
  florinref01: Shl, Of.
-/
import Derived.Test.YtkgjgdeaclefiaaRef01f
import Derived.Test.YtkgjgdeaclefiaaMem
namespace Go.Proofs.Ytkgjgdeaclefiaa
open Go Go.Proofs Go.RowKit Go.Flo

/-- Round t of Shl. -/
structure ShlR (m k : Nat) (x y : Nat) (l : List It) (w0 : World) (v i : Value) (wr : World) (t : Nat) : Prop where
  le : t ≤ 256
  at_ : i = .int .i64 (t : Int)
  lost : v = .bool (decide (m % 2 ^ t / 2 ^ (256 - k) ≠ 0))
  mem : Mem w0 wr (.c y (rowI fun j => if k ≤ j ∧ j < k + t then bit m (j - k) else 0) 145 :: .c x (rowI (bit m)) 145 :: l)

theorem lost_next (m t S : Nat) (h : S ≤ t) : decide (m % 2 ^ (t + 1) / 2 ^ S ≠ 0) = (decide (m % 2 ^ t / 2 ^ S ≠ 0) || (bit m t == 1)) := by
  have e : m % 2 ^ (t + 1) / 2 ^ S = m % 2 ^ t / 2 ^ S + 2 ^ (t - S) * (m / 2 ^ t % 2) := by
    rw [Nat.mod_pow_succ]
    have : 2 ^ t * (m / 2 ^ t % 2) = 2 ^ S * (2 ^ (t - S) * (m / 2 ^ t % 2)) := by rw [← Nat.mul_assoc, ← Nat.pow_add, show S + (t - S) = t by omega]
    rw [this, Nat.add_mul_div_left _ _ (Nat.two_pow_pos S)]
  rw [e]
  have hp := Nat.two_pow_pos (t - S)
  have hb : m / 2 ^ t % 2 = 0 ∨ m / 2 ^ t % 2 = 1 := by omega
  unfold bit
  rw [Bool.eq_iff_iff]
  simp only [Bool.or_eq_true, decide_eq_true_eq, beq_iff_eq]
  rcases hb with hb | hb
  · simp only [hb]
    simp
  · simp only [hb, Nat.mul_one]
    refine ⟨fun _ => .inr rfl, fun _ h => ?_⟩
    generalize 2 ^ (t - S) = z at *
    generalize m % 2 ^ t / 2 ^ S = q at *
    omega
theorem lost_none (m t S : Nat) (h : t < S) : decide (m % 2 ^ (t + 1) / 2 ^ S ≠ 0) = false ∧ decide (m % 2 ^ t / 2 ^ S ≠ 0) = false := by
  have h1 : m % 2 ^ (t + 1) < 2 ^ S := Nat.lt_of_lt_of_le (Nat.mod_lt _ (Nat.two_pow_pos _)) (Nat.pow_le_pow_right (by decide) (by omega))
  have h2 : m % 2 ^ t < 2 ^ S := Nat.lt_of_lt_of_le (Nat.mod_lt _ (Nat.two_pow_pos _)) (Nat.pow_le_pow_right (by decide) (by omega))
  rw [Nat.div_eq_of_lt h1, Nat.div_eq_of_lt h2]
  exact ⟨rfl, rfl⟩
theorem bit_shl (m k j : Nat) (hj : j < 256) : bit (m * 2 ^ k % top) j = if k ≤ j then bit m (j - k) else 0 := by
  rw [bit_top _ _ hj]
  unfold bit
  rw [← Nat.toNat_testBit, Nat.testBit_mul_two_pow, ← Nat.toNat_testBit]
  by_cases h : k ≤ j <;> simp [h]
theorem lost_all (m k : Nat) (hm : m < top) : decide (m % 2 ^ 256 / 2 ^ (256 - k) ≠ 0) = decide (top ≤ m * 2 ^ k) := by
  rw [decide_eq_decide]
  rw [top_pow] at hm ⊢
  rw [Nat.mod_eq_of_lt hm, ← Nat.pos_iff_ne_zero, Nat.div_pos_iff]
  rcases Nat.lt_or_ge k 256 with hk | hk
  · have e : 2 ^ 256 = 2 ^ (256 - k) * 2 ^ k := by rw [← Nat.pow_add]; congr 1; omega
    rw [e]
    constructor
    · intro h; exact Nat.mul_le_mul_right _ h.2
    · intro h; exact ⟨Nat.two_pow_pos _, Nat.le_of_mul_le_mul_right h (Nat.two_pow_pos k)⟩
  · rw [show 256 - k = 0 by omega]
    have hle : 2 ^ 256 ≤ 2 ^ k := Nat.pow_le_pow_right (by decide) hk
    constructor
    · intro h
      refine Nat.le_trans hle (Nat.le_mul_of_pos_left _ ?_)
      have := h.2
      omega
    · intro h
      refine ⟨by decide, ?_⟩
      rcases Nat.eq_zero_or_pos m with h0 | h0
      · subst h0; simp at h
      · exact h0

theorem mem_rowI {w0 w : World} {l : List It} {b i : Nat} {f g : Nat → Int} {x : Int} {T : TypeId} (h : Mem w0 w (.c b (rowI f) T :: l)) (hx : ∀ j, (if j = i then x else f j) = g j) :
    Mem w0 (w.setCell ⟨b, i, none⟩ (.int .i64 x)) (.c b (rowI g) T :: l) := by
  have := h.put 0 rfl i (.int .i64 x)
  rw [rowI_set] at this
  rw [← show (fun j => if j = i then x else f j) = g from funext hx]
  exact this

set_option maxRecDepth 100000 in
set_option maxHeartbeats 4000000 in
theorem rshl_n (m : Nat) (hm : m < top) (n : Int) (k : Nat) (hk : max n 0 = (k : Int)) (w0 : World) :
    Calls Try.prog 125 #[uV m, .int .i64 n] w0 fun e w' => e = .returned (.tuple #[uV (m * 2 ^ k % top), .bool (decide (top ≤ m * 2 ^ k))]) ∧ Below w0.heap.size w0 w' := by
  have hT : m * 2 ^ k % top < top := Nat.mod_lt _ (Nat.lt_of_le_of_lt (Nat.zero_le _) hm)
  have M := Mem.nil w0; have F := Mem.facts M; simp only [MemFacts] at F; (try simp only [ApartFacts] at F)
  go_enter Try.func125, Try.ntmps125
  go_wp2_with (first
    | (go_at_call 122; (with_reducible refine (digits_c m _).mono ?_); rintro e wx ⟨rfl, hb⟩; replace M := Mem.call (w0 := w0) (by repeat' (first | (with_reducible exact M) | (with_reducible apply Mem.drew) | (with_reducible apply Mem.alloc))) hb; clear hb; (try clear F); (try simp only [World.size_alloc] at M); (try simp only [heap_drew] at M); have F := Mem.facts M; simp only [MemFacts] at F; (try simp only [ApartFacts] at F))
    | (refine wl_alloc rfl 145 rfl bitsZ ?_)
    | (refine wl_store rfl 145 _ _ rfl bitsT rfl rfl (heap_alloc_new _ _) (rowI_size _) (rowI_size _) (rowI_one _) ?_; rw [World.setRow_alloc_new]))
  replace M := Mem.alloc (Mem.alloc M (cs := rowI (bit m)) (t := 145)) (cs := rowI fun _ => 0) (t := 145)
  simp only [World.size_alloc] at M
  obtain ⟨x, hx⟩ : ∃ x, x = wx.heap.size := ⟨_, rfl⟩
  rw [← hx] at M
  clear F
  go_loopw [8, 9] (fun v i wr => ∃ t, ShlR m k x (x + 1) [.c (w0.heap.size + 1) #[.int .u64 0, .int .u64 0, .int .u64 0, .int .u64 0] 35] w0 v i wr t) (fun _ i _ => (256 - intOf i).toNat)
  case atStart => exact ⟨0, Nat.zero_le _, rfl, by simp [Nat.mod_one], by
    have e : (fun j => if k ≤ j ∧ j < k + 0 then bit m (j - k) else 0) = fun _ => (0 : Int) := funext fun j => if_neg (by omega)
    rw [e]
    exact M.pick [0, 1, 2] (by decide)⟩
  case round =>
    clear M
    rw [← hx]
    clear hx
    obtain ⟨t, le, rfl, hv, M⟩ := hrel
    subst hv
    have F := Mem.facts M; simp only [MemFacts] at F; (try simp only [ApartFacts] at F)
    have HM := Lib.hid M
    rcases Nat.lt_or_ge t 256 with hlt | hge
    · clear M
      have hg : (rowI (bit m))[t]? = some (.int .i64 (bit m t)) := rowI_get _ hlt
      have hs := bit_small m t
      have hk0 : (0 : Int) ≤ (k : Int) := Int.natCast_nonneg k
      have HK := Lib.hid hk
      clear hk
      by_cases ha : t + k < 256
      · have h1 : (k : Int) < 256 := by omega
        have h2 : (t : Int) + (k : Int) < 256 := by omega
        have e : (t : Int) + (k : Int) = ((t + k : Nat) : Int) := by omega
        have HL := Lib.hid (lost_none m t (256 - k) (by omega))
        rw [HL.out.2]
        have hy : (rowI fun j => if k ≤ j ∧ j < k + t then bit m (j - k) else 0)[t + k]? = some (.int .i64 0) := by rw [rowI_get _ (by omega), if_neg (by omega)]
        clear e
        go_wp2
        refine ⟨⟨t + 1, by omega, by simp, by rw [HL.out.1], ?_⟩, by simp only [intOf]; omega⟩
        refine mem_rowI HM.out fun j => ?_
        by_cases hj : j = t + k
        · subst hj
          rw [if_pos rfl, if_pos (by omega), Nat.add_sub_cancel]
        · rw [if_neg hj]
          by_cases hj' : k ≤ j ∧ j < k + t
          · rw [if_pos hj', if_pos (by omega)]
          · rw [if_neg hj', if_neg (by omega)]
      · have hS : 256 - k ≤ t := by omega
        have HL := Lib.hid (lost_next m t (256 - k) hS)
        have er : (rowI fun j => if k ≤ j ∧ j < k + t then bit m (j - k) else 0) = rowI fun j => if k ≤ j ∧ j < k + (t + 1) then bit m (j - k) else 0 := rowI_congr fun j hj => by
          by_cases hj' : k ≤ j ∧ j < k + t
          · rw [if_pos hj', if_pos (by omega)]
          · rw [if_neg hj', if_neg (by omega)]
        rw [er] at HM F
        clear er
        obtain ⟨L, hL⟩ : ∃ L, L = decide (m % 2 ^ t / 2 ^ (256 - k) ≠ 0) := ⟨_, rfl⟩
        rw [← hL]
        have HL' := Lib.hid hL
        clear hL
        by_cases h1 : (k : Int) < 256
        · have h2 : ¬ ((t : Int) + (k : Int) < 256) := by omega
          have h3 : decide ((t : Int) + (k : Int) < 256) = false := decide_eq_false h2
          clear h2
          rcases L with _ | _
          · go_wp2
            exact ⟨⟨t + 1, by omega, by simp, by rw [HL.out, ← HL'.out]; rfl, HM.out⟩, by simp only [intOf]; omega⟩
          · go_wp2
            exact ⟨⟨t + 1, by omega, by simp, by rw [HL.out, ← HL'.out]; rfl, HM.out⟩, by simp only [intOf]; omega⟩
        · have h3 : decide ((k : Int) < 256) = false := decide_eq_false h1
          clear h1
          rcases L with _ | _
          · go_wp2
            exact ⟨⟨t + 1, by omega, by simp, by rw [HL.out, ← HL'.out]; rfl, HM.out⟩, by simp only [intOf]; omega⟩
          · go_wp2
            exact ⟨⟨t + 1, by omega, by simp, by rw [HL.out, ← HL'.out]; rfl, HM.out⟩, by simp only [intOf]; omega⟩
    · obtain rfl : t = 256 := by omega
      have er : (rowI fun j => if k ≤ j ∧ j < k + 256 then bit m (j - k) else 0) = rowI (bit (m * 2 ^ k % top)) := rowI_congr fun j hj => by
        rw [bit_shl m k j hj]
        by_cases hj' : k ≤ j
        · rw [if_pos hj', if_pos (by omega)]
        · rw [if_neg hj', if_neg (by omega)]
      rw [er] at M
      rw [lost_all m k hm]
      clear HM F er hge
      go_wp2_with (first
        | (refine wl_load rfl 145 _ rfl bitsT rfl (M.at 0 rfl) (rowI_size _) ?_)
        | (go_at_call 123; (with_reducible refine (number_c (m * 2 ^ k % top) hT _).mono ?_); rintro e w1 ⟨rfl, hb⟩; replace M := Mem.call (w0 := w0) (by repeat' (first | (with_reducible exact M) | (with_reducible apply Mem.drew) | (with_reducible apply Mem.alloc))) hb; clear hb; (try clear F); (try simp only [World.size_alloc] at M); (try simp only [heap_drew] at M); have F := Mem.facts M; simp only [MemFacts] at F; (try simp only [ApartFacts] at F)))
      have hc := fun j => cell_of_row _ _ j _ _ _ (put4_same (M.at 2 rfl) (.int .u64 (l0 (m * 2 ^ k % top))) (.int .u64 (l1 (m * 2 ^ k % top))) (.int .u64 (l2 (m * 2 ^ k % top))) (.int .u64 (l3 (m * 2 ^ k % top))))
      refine bodyPost_ret (v := .tuple #[uV (m * 2 ^ k % top), .bool (decide (top ≤ m * 2 ^ k))]) (by simp [results, Try.results125, go_sem, hc]) rfl ⟨rfl, ?_⟩
      exact Below.put4 M.below (by omega) _ _ _ _
theorem rshl_c (m : Nat) (hm : m < top) (n : Int) (w0 : World) :
    Calls Try.prog 125 #[uV m, .int .i64 n] w0 fun e w' => e = .returned (.tuple #[uV (m * 2 ^ n.toNat % top), .bool (decide (top ≤ m * 2 ^ n.toNat))]) ∧ Below w0.heap.size w0 w' :=
  rshl_n m hm n n.toNat (by omega) w0
theorem rof_c (x : Int) (h : Wd x) (w : World) :
    Calls Try.prog 73 #[.int .u64 x] w fun e w' => e = .returned (uV x.toNat) ∧ Below w.heap.size w w' := by
  have fin : Value.agg #[.int .u64 x, .int .u64 0, .int .u64 0, .int .u64 0] = uV x.toNat := by
    refine Is4.uV ⟨h, ⟨by decide, by decide⟩, ⟨by decide, by decide⟩, ⟨by decide, by decide⟩, ?_⟩
    have := h.lo
    omega
  rw [← fin]
  clear fin
  go_enter Try.func73, Try.ntmps73
  go_wp2
  refine bodyPost_ret (v := .agg #[.int .u64 x, .int .u64 0, .int .u64 0, .int .u64 0]) (by simp [results, Try.results73, go_sem]) rfl ⟨rfl, ?_⟩
  repeat' (first | (with_reducible exact Below.refl _ _) | (with_reducible assumption) | (with_reducible refine Below.drew ?_) | (with_reducible refine Below.alloc ?_ ?_ _) | (with_reducible refine Below.setCell ?_ ?_ _) | (with_reducible refine Flo.below_step ?_ (by assumption)) | (simp; done) | (simp; omega))
end Go.Proofs.Ytkgjgdeaclefiaa
