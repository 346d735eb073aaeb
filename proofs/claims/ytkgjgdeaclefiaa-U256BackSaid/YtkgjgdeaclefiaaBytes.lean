/-
  u256.Bytes, florinref01.Bytes.
-/
import Derived.Test.YtkgjgdeaclefiaaNumB
import Derived.Test.YtkgjgdeaclefiaaU256a
namespace Go.Proofs.Ytkgjgdeaclefiaa
open Go Go.Proofs Go.RowKit Go.Flo

theorem hashT : Rowed Try.prog 22 5 32 := ⟨Try.underlying22, by kernel_rfl⟩
theorem hashZ : (Try.prog.info? 22).map (fun i => i.zero) = some (some (.agg (bA (tab 32 fun _ => 0)))) := by
  unfold bA
  kernel_rfl
/-- A number's bytes, the highest first. -/
def byt (m j : Nat) : UInt8 := UInt8.ofNat (m / 2 ^ (8 * (31 - j)))
def bytesOf (m : Nat) : List UInt8 := tab 32 (byt m)
theorem byte_word (m q t p : Nat) (hq : t / 8 = q) (hp : p = t % 8 * 8) : IntKind.u8.wrap (li q m / 2 ^ p) = ((m / 2 ^ (8 * t) % 256 : Nat) : Int) := by
  have e : li q m / 2 ^ p = ((m / 2 ^ (64 * q) % 2 ^ 64 / 2 ^ p : Nat) : Int) := by
    unfold li
    rw [show ((2 : Int) ^ p) = ((2 ^ p : Nat) : Int) by simp]
    rfl
  rw [e]
  have e2 : m / 2 ^ (64 * q) % 2 ^ 64 / 2 ^ p % 256 = m / 2 ^ (8 * t) % 256 := by
    apply Nat.eq_of_testBit_eq
    intro k
    rw [show (256 : Nat) = 2 ^ 8 from rfl]
    simp only [Nat.testBit_mod_two_pow, Nat.testBit_div_two_pow]
    by_cases hk : k < 8
    · have h1 : k + p < 64 := by omega
      have h2 : k + p + 64 * q = k + 8 * t := by omega
      simp [hk, h1, h2]
    · simp [hk]
  rw [← e2]
  simp [IntKind.wrap_u8]

theorem byt_nat (m j : Nat) : (byt m j).toNat = m / 2 ^ (8 * (31 - j)) % 256 := by unfold byt; simp
theorem byt_word (m q t p s : Nat) (hq : t / 8 = q) (hp : p = t % 8 * 8) (hs : s + t = 31) : li q m / 2 ^ p % 256 = ((byt m s).toNat : Int) := by
  rw [byt_nat, show 31 - s = t by omega, ← byte_word m q t p hq hp, IntKind.wrap_u8]
structure BytR (m : Nat) (o : Nat) (l : List It) (f : Nat → UInt8) (w0 : World) (i : Value) (wr : World) (t : Nat) : Prop where
  le : t ≤ 32
  at_ : i = .int .i64 (t : Int)
  mem : Mem w0 wr (.c o (bA (tab 32 f)) 22 :: l)

set_option maxRecDepth 100000 in
set_option maxHeartbeats 2000000 in
theorem bytes_c (m : Nat) (w0 : World) :
    Calls Try.prog 81 #[uV m] w0 fun e w' => e = .returned (.agg (bA (bytesOf m))) ∧ Below w0.heap.size w0 w' := by
  have M := Mem.nil w0; have F := Mem.facts M; simp only [MemFacts] at F; (try simp only [ApartFacts] at F)
  go_enter Try.func81, Try.ntmps81
  go_wp2_with (refine wl_alloc rfl 22 rfl hashZ ?_)
  go_loopw [5] (fun i wr => ∃ t, BytR m (w0.heap.size + 1 + 1) [.c (w0.heap.size + 1) (bA (tab 32 fun _ => 0)) 22, .c w0.heap.size #[.int .u64 (l0 m), .int .u64 (l1 m), .int .u64 (l2 m), .int .u64 (l3 m)] 32] (fun j => if 31 < j + t then byt m j else 0) w0 i wr t) (fun i _ => (32 - intOf i).toNat)
  case atStart =>
    refine ⟨0, Nat.zero_le _, rfl, ?_⟩
    rw [show (tab 32 fun j => if 31 < j + 0 then byt m j else 0) = tab 32 fun _ => 0 from tab_congr fun i hi => if_neg (by omega)]
    repeat' (first | (with_reducible exact M) | (with_reducible apply Mem.drew) | (with_reducible refine Mem.alloc' ?_ ?_) | (simp; done))
  case round =>
    clear M F
    obtain ⟨t, le, rfl, M⟩ := hrel
    have F := Mem.facts M; simp only [MemFacts] at F; (try simp only [ApartFacts] at F)
    rcases Nat.lt_or_ge t 32 with hlt | hge
    · obtain ⟨p, hp⟩ : ∃ p, p = t % 8 * 8 := ⟨_, rfl⟩
      have hp' : (t : Int) % 8 * 8 = (p : Int) := by omega
      have p64 : p < 64 := by omega
      obtain ⟨s, hs⟩ : ∃ s, s = 31 - t := ⟨_, rfl⟩
      have hs' : (31 : Int) - (t : Int) = (s : Int) := by omega
      have s32 : s < 32 := by omega
      have hq : (t / 8 = 0 ∧ (t : Int) / 8 = 0) ∨ (t / 8 = 1 ∧ (t : Int) / 8 = 1) ∨ (t / 8 = 2 ∧ (t : Int) / 8 = 2) ∨ (t / 8 = 3 ∧ (t : Int) / 8 = 3) := by omega
      have HP := Lib.hid hp
      have HS := Lib.hid hs
      have hg : (bA (tab 32 fun j => if 31 < j + t then byt m j else 0))[s]? = some (.int .u8 (at8 (tab 32 fun j => if 31 < j + t then byt m j else 0) s)) := bA_get (by simpa using s32)
      have HM := Lib.hid M
      clear hp hs M
      rcases hq with ⟨hq, hqi⟩ | ⟨hq, hqi⟩ | ⟨hq, hqi⟩ | ⟨hq, hqi⟩
      all_goals
        have HQ := Lib.hid hq
        clear hq
        go_wp2
        have E := byt_word m (t / 8) t p s rfl HP.out (by have := HS.out; omega)
        rw [HQ.out] at E
        first | rw [← l0_li] at E | rw [← l1_li] at E | rw [← l2_li] at E | rw [← l3_li] at E
        rw [E]
        refine ⟨⟨t + 1, by omega, by simp, mem_bA HM.out fun j hj => ?_⟩, by simp only [intOf]; omega⟩
        have := HS.out
        by_cases h : j = s
        · subst h; rw [if_pos rfl, if_pos (by omega)]
        · rw [if_neg h]
          by_cases h' : 31 < j + t
          · rw [if_pos h', if_pos (by omega)]
          · rw [if_neg h', if_neg (by omega)]
    · obtain rfl : t = 32 := by omega
      have e : (tab 32 fun j => if 31 < j + 32 then byt m j else 0) = bytesOf m := tab_congr fun j _ => if_pos (by omega)
      rw [e] at M
      clear F e
      go_wp2_with (first | (refine wl_load rfl 22 _ rfl hashT rfl (M.at 0 rfl) (by rw [bA_size]; rfl) ?_) | (refine wl_store rfl 22 _ _ rfl hashT rfl rfl (M.at 1 rfl) (by rw [bA_size]; rfl) (by rw [bA_size, tab_length]) (bA_one _) ?_))
      refine bodyPost_ret (results_cell_row Try.results81 _ _ (w0.heap.size + 1) 22 (bA (bytesOf m)) (0, 0) _ rfl ((M.row 1 rfl _).at 1 rfl) hashT.under rfl (by rw [bA_size]; exact hashT.size)) rfl ⟨rfl, ?_⟩
      exact (M.row 1 rfl (bA (bytesOf m))).below
theorem bytesOf_length (m : Nat) : (bytesOf m).length = 32 := by simp [bytesOf]
theorem bytesOf_drop (m : Nat) : ∀ k, k ≤ 32 → beN ((bytesOf m).drop (32 - k)) = m % 2 ^ (8 * k)
  | 0, _ => by
    rw [Nat.sub_zero, List.drop_of_length_le (by rw [bytesOf_length]; exact Nat.le_refl _)]
    simp [beN_nil, Nat.mod_one]
  | k + 1, h => by
    have ih := bytesOf_drop m k (by omega)
    have hd : (bytesOf m).drop (32 - (k + 1)) = byt m (32 - (k + 1)) :: (bytesOf m).drop (32 - k) := by
      rw [List.drop_eq_getElem_cons (by rw [bytesOf_length]; omega), show 32 - (k + 1) + 1 = 32 - k by omega]
      congr 1
      exact tab_get _
    have hl : ((bytesOf m).drop (32 - k)).length = k := by rw [List.length_drop, bytesOf_length]; omega
    rw [hd, beN_cons, ih, hl, byt_nat, show 31 - (32 - (k + 1)) = k by omega, show (256 : Nat) ^ k = 2 ^ (8 * k) by rw [Nat.pow_mul]]
    rw [show 8 * (k + 1) = 8 * k + 8 by omega, Nat.pow_add, Nat.mod_mul, show (256 : Nat) = 2 ^ 8 from rfl, Nat.mul_comm]
    omega
theorem beN_bytesOf {m : Nat} (h : m < top) : beN (bytesOf m) = m := by
  have := bytesOf_drop m 32 (Nat.le_refl _)
  rw [Nat.sub_self, List.drop_zero] at this
  rw [this]
  exact Nat.mod_eq_of_lt (by rw [← top_pow]; exact h)

set_option maxRecDepth 100000 in
set_option maxHeartbeats 2000000 in
theorem rbytes_c (m : Nat) (w0 : World) :
    Calls Try.prog 82 #[uV m] w0 fun e w' => e = .returned (.agg (bA (bytesOf m))) ∧ Below w0.heap.size w0 w' := by
  have M := Mem.nil w0; have F := Mem.facts M; simp only [MemFacts] at F; (try simp only [ApartFacts] at F)
  go_enter Try.func82, Try.ntmps82
  go_wp2_with (refine wl_alloc rfl 22 rfl hashZ ?_)
  go_loopw [4] (fun i wr => ∃ t, BytR m (w0.heap.size + 1 + 1) [.c (w0.heap.size + 1) (bA (tab 32 fun _ => 0)) 22, .c w0.heap.size #[.int .u64 (l0 m), .int .u64 (l1 m), .int .u64 (l2 m), .int .u64 (l3 m)] 35] (fun j => if j < t then byt m j else 0) w0 i wr t) (fun i _ => (32 - intOf i).toNat)
  case atStart =>
    refine ⟨0, Nat.zero_le _, rfl, ?_⟩
    rw [show (tab 32 fun j => if j < 0 then byt m j else 0) = tab 32 fun _ => 0 from tab_congr fun i hi => if_neg (by omega)]
    repeat' (first | (with_reducible exact M) | (with_reducible apply Mem.drew) | (with_reducible refine Mem.alloc' ?_ ?_) | (simp; done))
  case round =>
    clear M F
    obtain ⟨t, le, rfl, M⟩ := hrel
    have F := Mem.facts M; simp only [MemFacts] at F; (try simp only [ApartFacts] at F)
    rcases Nat.lt_or_ge t 32 with hlt | hge
    · obtain ⟨p, hp⟩ : ∃ p, p = (31 - t) % 8 * 8 := ⟨_, rfl⟩
      have hp' : (56 : Int) - (t : Int) % 8 * 8 = (p : Int) := by omega
      have p64 : p < 64 := by omega
      have hq : ((31 - t) / 8 = 0 ∧ (3 : Int) - (t : Int) / 8 = 0) ∨ ((31 - t) / 8 = 1 ∧ (3 : Int) - (t : Int) / 8 = 1) ∨ ((31 - t) / 8 = 2 ∧ (3 : Int) - (t : Int) / 8 = 2) ∨ ((31 - t) / 8 = 3 ∧ (3 : Int) - (t : Int) / 8 = 3) := by omega
      have HP := Lib.hid hp
      have hg : (bA (tab 32 fun j => if j < t then byt m j else 0))[t]? = some (.int .u8 (at8 (tab 32 fun j => if j < t then byt m j else 0) t)) := bA_get (by simpa using hlt)
      have HM := Lib.hid M
      clear hp M
      rcases hq with ⟨hq, hqi⟩ | ⟨hq, hqi⟩ | ⟨hq, hqi⟩ | ⟨hq, hqi⟩
      all_goals
        have HQ := Lib.hid hq
        clear hq
        go_wp2
        have E := byt_word m ((31 - t) / 8) (31 - t) p t rfl HP.out (by omega)
        rw [HQ.out] at E
        first | rw [← l0_li] at E | rw [← l1_li] at E | rw [← l2_li] at E | rw [← l3_li] at E
        rw [E]
        refine ⟨⟨t + 1, by omega, by simp, mem_bA HM.out fun j hj => ?_⟩, by simp only [intOf]; omega⟩
        by_cases h : j = t
        · subst h; rw [if_pos rfl, if_pos (by omega)]
        · rw [if_neg h]
          by_cases h' : j < t
          · rw [if_pos h', if_pos (by omega)]
          · rw [if_neg h', if_neg (by omega)]
    · obtain rfl : t = 32 := by omega
      have e : (tab 32 fun j => if j < 32 then byt m j else 0) = bytesOf m := tab_congr fun j hj => if_pos hj
      rw [e] at M
      clear F e
      go_wp2_with (first | (refine wl_load rfl 22 _ rfl hashT rfl (M.at 0 rfl) (by rw [bA_size]; rfl) ?_) | (refine wl_store rfl 22 _ _ rfl hashT rfl rfl (M.at 1 rfl) (by rw [bA_size]; rfl) (by rw [bA_size, tab_length]) (bA_one _) ?_))
      refine bodyPost_ret (results_cell_row Try.results82 _ _ (w0.heap.size + 1) 22 (bA (bytesOf m)) (0, 0) _ rfl ((M.row 1 rfl _).at 1 rfl) hashT.under rfl (by rw [bA_size]; exact hashT.size)) rfl ⟨rfl, ?_⟩
      exact (M.row 1 rfl (bA (bytesOf m))).below
end Go.Proofs.Ytkgjgdeaclefiaa
