/-
  florinref01: Hex.
-/
import Derived.Test.YtkgjgdeaclefiaaRef01i
import Derived.Test.YtkgjgdeaclefiaaHex
namespace Go.Proofs.Ytkgjgdeaclefiaa
open Go Go.Proofs Go.RowKit Go.Flo

/-- Round t of Hex: g rounds are passed over. -/
structure RhxR (m K : Nat) (w0 : World) (v i : Value) (wr : World) (t : Nat) : Prop where
  le : t ≤ 64
  at_ : i = .int .i64 (252 - 4 * (t : Int))
  none : t ≤ 63 - K → v = .slice none 0 0
  mem : Mem w0 wr [.s v 5 1 (t - (63 - K)) ((hexL m K (t - (63 - K))).map (Value.int .u8)), .c w0.heap.size #[.int .u64 (l0 m), .int .u64 (l1 m), .int .u64 (l2 m), .int .u64 (l3 m)] 35]

theorem nib_word (m q p j : Nat) (hq : j / 16 = q) (hp : p = 4 * j % 64) : bits .and .u64 (li q m / 2 ^ p) 15 = ((m / 16 ^ j % 16 : Nat) : Int) := by
  have e : li q m / 2 ^ p = ((m / 2 ^ (64 * q) % 2 ^ 64 / 2 ^ p : Nat) : Int) := by
    unfold li
    rw [show ((2 : Int) ^ p) = ((2 ^ p : Nat) : Int) by simp]
    rfl
  rw [e, show (15 : Int) = ((15 : Nat) : Int) from rfl, Go.u64_and_nat _ _ (div_lt64 p (pow64 _)) (by decide)]
  congr 1
  rw [show (15 : Nat) = 2 ^ 4 - 1 from rfl, Nat.and_two_pow_sub_one_eq_mod, show (16 : Nat) ^ j = 2 ^ (4 * j) by rw [Nat.pow_mul], show (16 : Nat) = 2 ^ 4 from rfl]
  apply Nat.eq_of_testBit_eq
  intro k
  simp only [Nat.testBit_mod_two_pow, Nat.testBit_div_two_pow]
  by_cases hk : k < 4
  · have h1 : k + p < 64 := by omega
    have h2 : k + p + 64 * q = k + 4 * j := by omega
    simp [hk, h1, h2]
  · simp [hk]
/-- What the digits are ahead of, and at, the first one that is written. -/
theorem nib_zero (m j : Nat) (h : (lenN m - 1) / 4 < j) : m / 16 ^ j % 16 = 0 := by
  have h1 : m < 16 ^ j := by
    rw [show (16 : Nat) ^ j = 2 ^ (4 * j) by rw [Nat.pow_mul]]
    exact lenN_le.1 (by omega)
  rw [Nat.div_eq_of_lt h1]
theorem nib_first (m : Nat) (hm : m ≠ 0) : m / 16 ^ ((lenN m - 1) / 4) % 16 ≠ 0 := by
  have hlo := lenN_lo hm
  have hpos := Flo.lenN_pos hm
  have h1 : 16 ^ ((lenN m - 1) / 4) ≤ m := by
    rw [show (16 : Nat) ^ ((lenN m - 1) / 4) = 2 ^ (4 * ((lenN m - 1) / 4)) by rw [Nat.pow_mul]]
    exact Nat.le_trans (Nat.pow_le_pow_right (by decide) (by omega)) hlo
  have h2 : m < 16 ^ ((lenN m - 1) / 4) * 16 := by
    rw [← Nat.pow_succ, show (16 : Nat) ^ ((lenN m - 1) / 4 + 1) = 2 ^ (4 * ((lenN m - 1) / 4 + 1)) by rw [Nat.pow_mul]]
    exact lenN_le.1 (by omega)
  have hp : 0 < 16 ^ ((lenN m - 1) / 4) := Nat.pow_pos (by decide)
  have h3 : m / 16 ^ ((lenN m - 1) / 4) < 16 := (Nat.div_lt_iff_lt_mul hp).2 (by rw [Nat.mul_comm]; exact h2)
  have h4 : 0 < m / 16 ^ ((lenN m - 1) / 4) := Nat.div_pos h1 hp
  rw [Nat.mod_eq_of_lt h3]
  omega

set_option maxRecDepth 100000 in
set_option maxHeartbeats 4000000 in
theorem rhex_c (m : Nat) (hm : m < top) (w0 : World) :
    Calls Try.prog 84 #[uV m] w0 fun e w' => e = .returned (.string (hexS m)) ∧ Below w0.heap.size w0 w' := by
  obtain ⟨K, hK, hK63, hL, eK⟩ := hexK m hm
  clear eK hL
  obtain ⟨i0, hi, hz0, hz1, hz2⟩ : ∃ i : TypeInfo, Try.prog.info? 5 = some i ∧ i.zero = some (.int .u8 0) ∧ i.size = 1 ∧ i.bytes = 1 := ⟨_, rfl, rfl, rfl, rfl⟩
  have M := Mem.nil w0; have F := Mem.facts M; simp only [MemFacts] at F; (try simp only [ApartFacts] at F)
  go_enter Try.func84, Try.ntmps84
  go_wp2
  replace M := Mem.allocS (Mem.alloc M (cs := #[.int .u64 (l0 m), .int .u64 (l1 m), .int .u64 (l2 m), .int .u64 (l3 m)]) (t := 35)) 5 1
  go_loopw [4, 5] (fun v i wr => ∃ t, RhxR m K w0 v i wr t) (fun _ i _ => (intOf i + 4).toNat)
  case atStart =>
    exact ⟨0, Nat.zero_le _, rfl, fun _ => rfl, by rw [Nat.zero_sub]; exact M⟩
  case round =>
    clear M F
    obtain ⟨t, le, rfl, hnone, M⟩ := hrel
    have F := Mem.facts M; simp only [MemFacts] at F; (try simp only [ApartFacts] at F)
    rcases Nat.lt_or_ge t 64 with hlt | hge
    · obtain ⟨j, hj⟩ : ∃ j, j = 63 - t := ⟨_, rfl⟩
      have ei : (252 - 4 * (t : Int)) = 4 * (j : Int) := by omega
      rw [ei]
      obtain ⟨p, hp⟩ : ∃ p, p = 4 * j % 64 := ⟨_, rfl⟩
      have hp' : 4 * (j : Int) % 64 = (p : Int) := by omega
      obtain ⟨d, hd⟩ : ∃ d, d = m / 16 ^ j % 16 := ⟨_, rfl⟩
      have d16 : d < 16 := by omega
      have hq : (j / 16 = 0 ∧ 4 * (j : Int) / 64 = 0) ∨ (j / 16 = 1 ∧ 4 * (j : Int) / 64 = 1) ∨ (j / 16 = 2 ∧ 4 * (j : Int) / 64 = 2) ∨ (j / 16 = 3 ∧ 4 * (j : Int) / 64 = 3) := by omega
      have hw := nib_word m (j / 16) p j rfl hp
      rw [← hd] at hw
      have Hd := Lib.hid hd
      have Hj := Lib.hid hj
      have p64 : p < 64 := by omega
      obtain ⟨a, c, hv⟩ := M.shape 0 rfl
      have HM := Lib.hid M
      clear hp hd hj ei M
      rcases Nat.lt_trichotomy t (63 - K) with h | h | h
      · -- nothing yet
        have hd0 : d = 0 := by rw [Hd.out]; exact nib_zero m j (by rw [← hK.out, Hj.out]; omega)
        have hv0 := hnone (by omega)
        subst hd0
        subst hv0
        have hj0 : (4 * (j : Int) == 0) = false := by rw [beq_eq_false_iff_ne]; have := Hj.out; omega
        clear hv hnone
        rcases hq with ⟨hq, hqi⟩ | ⟨hq, hqi⟩ | ⟨hq, hqi⟩ | ⟨hq, hqi⟩
        all_goals
          rw [hq] at hw
          first | rw [← l0_li] at hw | rw [← l1_li] at hw | rw [← l2_li] at hw | rw [← l3_li] at hw
          clear hq
        all_goals
          go_wp2
          refine ⟨⟨t + 1, by omega, by congr 1; have := Hj.out; omega, fun _ => rfl, ?_⟩, by simp only [intOf]; omega⟩
          rw [show t + 1 - (63 - K) = t - (63 - K) by omega]
          exact HM.out
      · -- the first digit
        have hv0 := hnone (by omega)
        subst hv0
        have hjK : j = K := by have := Hj.out; omega
        by_cases hm0 : m = 0
        · have hK0 : K = 0 := by have := hK.out; rw [hm0, Flo.lenN_zero] at this; omega
          have hj0 : j = 0 := by omega
          have hd0 : d = 0 := by rw [Hd.out, hm0]; simp
          have hd1 : ((d : Int) != 0) = false := by rw [bne_eq_false_iff_eq]; omega
          have hd2 : ((d : Int) == 0) = true := by rw [beq_iff_eq]; omega
          have hj1 : (4 * (j : Int) == 0) = true := by rw [beq_iff_eq]; omega
          clear hv hnone hm0 hK0 hj0 hd0 hjK
          rcases hq with ⟨hq, hqi⟩ | ⟨hq, hqi⟩ | ⟨hq, hqi⟩ | ⟨hq, hqi⟩
          all_goals
            rw [hq] at hw
            first | rw [← l0_li] at hw | rw [← l1_li] at hw | rw [← l2_li] at hw | rw [← l3_li] at hw
            clear hq
            go_wp2_with (at_builtin; refine wl_append _ 1 (Mem.alloc HM.out) rfl rfl _ _ 42 rfl i0 (.int .u8 0) 1 Try.underlying42 hi hz0 hz1 hz2 rfl (by decide) rfl ⟨wr.heap.size, 0, none⟩ 1 1 [.int .u8 (sgn d)] rfl rfl ?c1 ?c2 ?c3 ?c4 ?_)
            case c1 =>
              intro k u hk
              match k, hk with
              | 0, hk => simp at hk; subst hk; rw [← sgn_get d d16 (by exact d16)]; simp [Addr.add, go_sem]
            case c2 => intro u hu; simp at hu; subst hu; rfl
            case c3 => unfold maxLen; omega
            case c4 => omega
            intro v' w2 M2
            have R : RhxR m K w0 v' (.int .i64 (4 * (j : Int) - 4)) w2 (t + 1) := by
              have hj := Hj.out
              refine ⟨by omega, by congr 1; omega, fun h => by omega, ?_⟩
              have e1 : t + 1 - (63 - K) = 0 + 1 := by omega
              have e2 : K - 0 = j := by omega
              rw [e1, hexL_succ, e2, List.map_append, ← Hd.out]
              exact M2.pick [1, 2] (by decide)
            clear M2
            go_wp2
            exact ⟨⟨_, R⟩, by simp only [intOf]; omega⟩
        · have hd0 : d ≠ 0 := by rw [Hd.out, hjK, hK.out]; exact nib_first m hm0
          have hd1 : ((d : Int) != 0) = true := by rw [bne_iff_ne]; omega
          have hd2 : ((d : Int) == 0) = false := by rw [beq_eq_false_iff_ne]; omega
          clear hv hnone hm0 hd0 hjK
          rcases hq with ⟨hq, hqi⟩ | ⟨hq, hqi⟩ | ⟨hq, hqi⟩ | ⟨hq, hqi⟩
          all_goals
            rw [hq] at hw
            first | rw [← l0_li] at hw | rw [← l1_li] at hw | rw [← l2_li] at hw | rw [← l3_li] at hw
            clear hq
            go_wp2_with (at_builtin; refine wl_append _ 1 (Mem.alloc HM.out) rfl rfl _ _ 42 rfl i0 (.int .u8 0) 1 Try.underlying42 hi hz0 hz1 hz2 rfl (by decide) rfl ⟨wr.heap.size, 0, none⟩ 1 1 [.int .u8 (sgn d)] rfl rfl ?c1 ?c2 ?c3 ?c4 ?_)
            case c1 =>
              intro k u hk
              match k, hk with
              | 0, hk => simp at hk; subst hk; rw [← sgn_get d d16 (by exact d16)]; simp [Addr.add, go_sem]
            case c2 => intro u hu; simp at hu; subst hu; rfl
            case c3 => unfold maxLen; omega
            case c4 => omega
            intro v' w2 M2
            have R : RhxR m K w0 v' (.int .i64 (4 * (j : Int) - 4)) w2 (t + 1) := by
              have hj := Hj.out
              refine ⟨by omega, by congr 1; omega, fun h => by omega, ?_⟩
              have e1 : t + 1 - (63 - K) = 0 + 1 := by omega
              have e2 : K - 0 = j := by omega
              rw [e1, hexL_succ, e2, List.map_append, ← Hd.out]
              exact M2.pick [1, 2] (by decide)
            clear M2
            go_wp2
            exact ⟨⟨_, R⟩, by simp only [intOf]; omega⟩
      · obtain ⟨n, hn⟩ : ∃ n, n = t - (63 - K) := ⟨_, rfl⟩
        rw [← hn] at hv HM
        have hn0 : (0 : Int) < (n : Int) := by omega
        have hn64 : n ≤ 64 := by omega
        have Hn := Lib.hid hn
        have HT := Lib.hid h
        subst hv
        clear hnone hn h
        rcases (show d = 0 ∨ d ≠ 0 by omega) with hd0 | hd0
        all_goals
          first
            | (have hd1 : ((d : Int) != 0) = false := by rw [bne_eq_false_iff_eq]; omega
               have hd2 : ((d : Int) == 0) = true := by rw [beq_iff_eq]; omega
               clear hd0)
            | (have hd1 : ((d : Int) != 0) = true := by rw [bne_iff_ne]; omega
               have hd2 : ((d : Int) == 0) = false := by rw [beq_eq_false_iff_ne]; omega
               clear hd0)
          rcases hq with ⟨hq, hqi⟩ | ⟨hq, hqi⟩ | ⟨hq, hqi⟩ | ⟨hq, hqi⟩
          all_goals
            rw [hq] at hw
            first | rw [← l0_li] at hw | rw [← l1_li] at hw | rw [← l2_li] at hw | rw [← l3_li] at hw
            clear hq
            go_wp2_with (at_builtin; refine wl_append _ 1 (Mem.alloc HM.out) rfl rfl _ _ 42 rfl i0 (.int .u8 0) 1 Try.underlying42 hi hz0 hz1 hz2 rfl (by decide) rfl ⟨wr.heap.size, 0, none⟩ 1 1 [.int .u8 (sgn d)] rfl rfl ?c1 ?c2 ?c3 ?c4 ?_)
            case c1 =>
              intro k u hk
              match k, hk with
              | 0, hk => simp at hk; subst hk; rw [← sgn_get d d16 (by exact d16)]; simp [Addr.add, go_sem]
            case c2 => intro u hu; simp at hu; subst hu; rfl
            case c3 => unfold maxLen; omega
            case c4 => omega
            intro v' w2 M2
            have R : RhxR m K w0 v' (.int .i64 (4 * (j : Int) - 4)) w2 (t + 1) := by
              have hj := Hj.out
              have hn := Hn.out
              have ht := HT.out
              refine ⟨by omega, by congr 1; omega, fun h => by omega, ?_⟩
              have e1 : t + 1 - (63 - K) = n + 1 := by omega
              have e2 : K - n = j := by omega
              rw [e1, hexL_succ, e2, List.map_append, ← Hd.out]
              exact M2.pick [1, 2] (by decide)
            clear M2
            go_wp2
            exact ⟨⟨_, R⟩, by simp only [intOf]; omega⟩
    · obtain rfl : t = 64 := by omega
      have ei : (252 : Int) - 4 * ((64 : Nat) : Int) = -4 := rfl
      rw [ei]
      rw [show 64 - (63 - K) = K + 1 by omega] at M
      have hconv := own_string Try.underlying42 Try.underlying5 Try.underlying9 (M.items.get (i := 0) rfl) (by omega)
      have B2 := M.below
      go_wp2
      refine bodyPost_ret (v := .string (hexS m)) (by simp [results, Try.results84, go_sem, hexS, hK.out]) rfl ⟨rfl, B2⟩
end Go.Proofs.Ytkgjgdeaclefiaa
