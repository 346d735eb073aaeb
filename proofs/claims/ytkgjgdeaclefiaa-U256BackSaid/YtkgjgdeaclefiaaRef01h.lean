/-
  florinref01: Mul.
-/
import Derived.Test.YtkgjgdeaclefiaaRef01g
import Derived.Test.YtkgjgdeaclefiaaU256e
namespace Go.Proofs.Ytkgjgdeaclefiaa
open Go Go.Proofs Go.RowKit Go.Flo

theorem mul_lost {T A B : Nat} : (decide (T ≤ A) || decide (T ≤ B) || decide (T ≤ A % T + B % T)) = decide (T ≤ A + B) := by
  rw [Bool.eq_iff_iff]
  simp only [Bool.or_eq_true, decide_eq_true_eq]
  constructor
  · rintro ((h | h) | h)
    · omega
    · omega
    · have := Nat.mod_le A T; have := Nat.mod_le B T; omega
  · intro h
    by_cases ha : T ≤ A
    · exact .inl (.inl ha)
    · by_cases hb : T ≤ B
      · exact .inl (.inr hb)
      · rw [Nat.mod_eq_of_lt (by omega), Nat.mod_eq_of_lt (by omega)]
        exact .inr h
theorem k_bit (kn t : Nat) (hk : kn < 18446744073709551616) : bits .and .u64 ((kn : Int) / 2 ^ t) 1 = ((kn / 2 ^ t % 2 : Nat) : Int) := by
  rw [div_cast, show (1 : Int) = ((1 : Nat) : Int) from rfl, Go.u64_and_nat _ _ (Nat.lt_of_le_of_lt (Nat.div_le_self _ _) hk) (by decide), Nat.and_one_is_mod]

/-- Round t of Mul. -/
structure MulR (m kn : Nat) (S0 : Nat) (l : List It) (w0 : World) (v i : Value) (wr : World) (t : Nat) : Prop where
  le : t ≤ 64
  at_ : i = .int .i64 (t : Int)
  lost : v = .bool (decide (top ≤ m * (kn % 2 ^ t)))
  mem : Mem w0 wr (.c S0 #[.int .u64 (l0 (m * (kn % 2 ^ t) % top)), .int .u64 (l1 (m * (kn % 2 ^ t) % top)), .int .u64 (l2 (m * (kn % 2 ^ t) % top)), .int .u64 (l3 (m * (kn % 2 ^ t) % top))] 35 :: l)

set_option maxRecDepth 100000 in
set_option maxHeartbeats 4000000 in
theorem rmul_c (m kn : Nat) (hm : m < top) (hk : kn < 18446744073709551616) (w0 : World) :
    Calls Try.prog 66 #[uV m, .int .u64 (kn : Int)] w0 fun e w' => e = .returned (.tuple #[uV (m * kn % top), .bool (decide (top ≤ m * kn))]) ∧ Below w0.heap.size w0 w' := by
  have hT : 0 < top := Nat.lt_of_le_of_lt (Nat.zero_le _) hm
  have HM := Lib.hid hm
  have HK := Lib.hid hk
  have hk0 : (0 : Int) ≤ (kn : Int) := Int.natCast_nonneg kn
  clear hm hk
  have M := Mem.nil w0; have F := Mem.facts M; simp only [MemFacts] at F; (try simp only [ApartFacts] at F)
  go_enter Try.func66, Try.ntmps66
  go_wp2
  have z0 : l0 (m * (kn % 2 ^ 0) % top) = 0 ∧ l1 (m * (kn % 2 ^ 0) % top) = 0 ∧ l2 (m * (kn % 2 ^ 0) % top) = 0 ∧ l3 (m * (kn % 2 ^ 0) % top) = 0 := by
    rw [Nat.pow_zero, Nat.mod_one, Nat.mul_zero, Nat.zero_mod]
    unfold l0 l1 l2 l3
    exact ⟨rfl, rfl, rfl, rfl⟩
  go_loopw [7, 8] (fun v i wr => ∃ t, MulR m kn (w0.heap.size + 1 + 1) [.c (w0.heap.size + 1) #[.int .u64 0, .int .u64 0, .int .u64 0, .int .u64 0] 35, .c w0.heap.size #[.int .u64 (l0 m), .int .u64 (l1 m), .int .u64 (l2 m), .int .u64 (l3 m)] 35] w0 v i wr t) (fun _ i _ => (64 - intOf i).toNat)
  case atStart =>
    refine ⟨0, Nat.zero_le _, rfl, by rw [Nat.pow_zero, Nat.mod_one, Nat.mul_zero, decide_eq_false (by omega)], ?_⟩
    rw [z0.1, z0.2.1, z0.2.2.1, z0.2.2.2]
    repeat' (first | (with_reducible exact M) | (with_reducible apply Mem.drew) | (with_reducible refine Mem.alloc' ?_ ?_) | (simp; done))
  case round =>
    clear z0 M F
    obtain ⟨t, le, rfl, hv, M⟩ := hrel
    subst hv
    obtain ⟨s, hs⟩ : ∃ s, s = m * (kn % 2 ^ t) % top := ⟨_, rfl⟩
    obtain ⟨L, hL⟩ : ∃ L, L = decide (top ≤ m * (kn % 2 ^ t)) := ⟨_, rfl⟩
    rw [← hs] at M
    rw [← hL]
    have HS := Lib.hid hs
    have HL := Lib.hid hL
    clear hs hL
    have F := Mem.facts M; simp only [MemFacts] at F; (try simp only [ApartFacts] at F)
    rcases Nat.lt_or_ge t 64 with hlt | hge
    · have hb := Lib.hid (k_bit kn t HK.out)
      rcases Nat.mod_two_eq_zero_or_one (kn / 2 ^ t) with h | h
      · have h1 : bits .and .u64 ((kn : Int) / 2 ^ t) 1 = 0 := by have := hb.out; rw [h] at this; exact this
        have H := Lib.hid h
        clear h
        go_wp2
        have e : kn % 2 ^ (t + 1) = kn % 2 ^ t := by rw [Nat.mod_pow_succ, H.out]; omega
        exact ⟨⟨t + 1, by omega, by simp, by rw [e, ← HL.out], by rw [e, ← HS.out]; exact M⟩, by simp only [intOf]; omega⟩
      · have h1 : bits .and .u64 ((kn : Int) / 2 ^ t) 1 = 1 := by have := hb.out; rw [h] at this; exact this
        have H := Lib.hid h
        clear h
        obtain ⟨x, hx⟩ : ∃ x, x = m * 2 ^ t % top := ⟨_, rfl⟩
        obtain ⟨ov, hov⟩ : ∃ ov, ov = decide (top ≤ m * 2 ^ t) := ⟨_, rfl⟩
        obtain ⟨s', hs'⟩ : ∃ s', s' = (s + x) % top := ⟨_, rfl⟩
        obtain ⟨cy, hcy⟩ : ∃ cy, cy = decide (top ≤ s + x) := ⟨_, rfl⟩
        have C1 : ∀ w, Calls Try.prog 125 #[uV m, .int .i64 (t : Int)] w fun e w' => e = .returned (.tuple #[uV x, .bool ov]) ∧ Below w.heap.size w w' := fun w => by
          rw [hx, hov]; exact rshl_c m HM.out (t : Int) w
        have C2 : ∀ w, Calls Try.prog 63 #[uV s, uV x] w fun e w' => e = .returned (.tuple #[uV s', .bool cy]) ∧ Below w.heap.size w w' := fun w => by
          rw [hs', hcy]; exact radd_c s x (by rw [HS.out]; exact Nat.mod_lt _ hT) (by rw [hx]; exact Nat.mod_lt _ hT) w
        have e : m * (kn % 2 ^ (t + 1)) = m * (kn % 2 ^ t) + m * 2 ^ t := by rw [Nat.mod_pow_succ, H.out, Nat.mul_one, Nat.mul_add]
        have R1 : s' = m * (kn % 2 ^ (t + 1)) % top := by rw [hs', HS.out, hx, ← Nat.add_mod, e]
        have R2 : decide (top ≤ m * (kn % 2 ^ (t + 1))) = (L || ov || cy) := by rw [HL.out, hov, hcy, HS.out, hx, e, mul_lost]
        have R1 := Lib.hid R1
        have R2 := Lib.hid R2
        clear hx hov hs' hcy e
        rcases L with _ | _ <;> rcases ov with _ | _ <;> rcases cy with _ | _
        all_goals
          go_wp2_with (first | (go_at_call 125; (with_reducible refine (C1 _).mono ?_); rintro e w1 ⟨rfl, hb⟩; replace M := Mem.call (w0 := w0) (by repeat' (first | (with_reducible exact M) | (with_reducible apply Mem.drew) | (with_reducible apply Mem.alloc))) hb; clear hb; (try clear F); (try simp only [World.size_alloc] at M); (try simp only [heap_drew] at M); have F := Mem.facts M; simp only [MemFacts] at F; (try simp only [ApartFacts] at F)) | (go_at_call 63; (with_reducible refine (C2 _).mono ?_); rintro e w1 ⟨rfl, hb⟩; replace M := Mem.call (w0 := w0) (by repeat' (first | (with_reducible exact M) | (with_reducible apply Mem.drew) | (with_reducible apply Mem.alloc))) hb; clear hb; (try clear F); (try simp only [World.size_alloc] at M); (try simp only [heap_drew] at M); have F := Mem.facts M; simp only [MemFacts] at F; (try simp only [ApartFacts] at F)))
          exact ⟨⟨t + 1, by omega, by simp, by rw [R2.out]; rfl, ((M.put4 1 rfl _ _ _ _).alloc).pick [2, 3, 4] (by decide)⟩, by simp only [intOf]; omega⟩
    · obtain rfl : t = 64 := by omega
      rw [Nat.mod_eq_of_lt (show kn < 2 ^ 64 from HK.out)] at HS HL
      go_wp2
      have hc := fun j => cell_of_row _ _ j _ _ _ (put4_same (M.at 1 rfl) (.int .u64 (l0 s)) (.int .u64 (l1 s)) (.int .u64 (l2 s)) (.int .u64 (l3 s)))
      rw [← HL.out, ← HS.out]
      refine bodyPost_ret (v := .tuple #[uV s, .bool L]) (by simp [results, Try.results66, go_sem, hc]) rfl ⟨rfl, ?_⟩
      exact Below.put4 M.below (by omega) _ _ _ _
end Go.Proofs.Ytkgjgdeaclefiaa
