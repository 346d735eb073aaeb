/-
  sha2: RotateLeft32, turned, and florinref02.turn: a word turned.
-/
import Derived.Test.YtkgjgdeaclefiaaUa
import Derived.Test.YtkgjgdeaclefiaaShaP
import Derived.Test.YtkgjgdeaclefiaaMk
namespace Go.Proofs.Ytkgjgdeaclefiaa
open Go Go.Proofs Go.RowKit Go.Flo

theorem rot_lt (x : UInt32) (n : Nat) : x.toNat / 2 ^ n ||| x.toNat * 2 ^ (32 - n) % 4294967296 < 4294967296 := by
  have := x.toNat_lt
  refine Nat.or_lt_two_pow (n := 32) ?_ (Nat.mod_lt _ (by decide))
  exact Nat.lt_of_le_of_lt (Nat.div_le_self _ _) this
theorem rot_toNat (x : UInt32) (n : Nat) : (rot x n).toNat = x.toNat / 2 ^ n ||| x.toNat * 2 ^ (32 - n) % 4294967296 := by
  unfold rot
  rw [UInt32.toNat_ofNat_of_lt' (rot_lt x n)]
theorem neg_mask (n : Nat) (h0 : 0 < n) (h1 : n < 32) : bits .and .u64 (IntKind.u64.wrap (-(n : Int))) 31 = ((32 - n : Nat) : Int) := by
  have e : IntKind.u64.wrap (-(n : Int)) = ((18446744073709551616 - n : Nat) : Int) := by
    rw [IntKind.wrap_u64]
    omega
  rw [e, show (31 : Int) = ((31 : Nat) : Int) from rfl, u64_and_nat _ _ (by omega) (by decide), nat_mask5]
  congr 1
  omega
theorem ret_int {k : IntKind} {a b : Int} (h : a = b) : Ending.returned (.int k a) = .returned (.int k b) := by rw [h]
theorem or_rot (x : UInt32) (n : Nat) : bits .or .u32 ((x.toNat : Int) / 2 ^ n) ((x.toNat : Int) * 2 ^ (32 - n) % 4294967296) = ((rot x n).toNat : Int) := by
  have hx := x.toNat_lt
  have e1 : (x.toNat : Int) / 2 ^ n = ((x.toNat / 2 ^ n : Nat) : Int) := by rw [Int.natCast_ediv, Int.natCast_pow]; rfl
  have e2 : (x.toNat : Int) * 2 ^ (32 - n) % 4294967296 = ((x.toNat * 2 ^ (32 - n) % 4294967296 : Nat) : Int) := by rw [Int.natCast_emod, Int.natCast_mul, Int.natCast_pow]; rfl
  rw [e1, e2, u32_or_nat _ _ (Nat.lt_of_le_of_lt (Nat.div_le_self _ _) hx) (Nat.mod_lt _ (by decide)), rot_toNat]
set_option maxHeartbeats 1000000 in
theorem rotl_c (x : UInt32) (n : Nat) (h0 : 0 < n) (h1 : n < 32) (w : World) : Calls Try.prog 136 #[.int .u32 (x.toNat : Int), .int .i64 (-(n : Int))] w fun e w' => e = .returned (.int .u32 ((rot x n).toNat : Int)) ∧ w = w' := by
  have hm := neg_mask n h0 h1
  have hs : (32 : Int) - ((32 - n : Nat) : Int) = (n : Int) := by omega
  have ho := or_rot x n
  have hc : ∀ x y, bits .or .u32 x y = bits .or .u32 y x := fun x y => by
    unfold bits
    simp only [BitVec.or_comm]
  rw [hc] at ho
  have HO := Lib.hid ho
  clear ho hc
  go_enter Try.func136, Try.ntmps136
  go_wp2
  go_ret
  exact ⟨ret_int HO.out, rfl⟩
set_option maxHeartbeats 1000000 in
theorem turn_c (x : UInt32) (n : Nat) (h0 : 0 < n) (h1 : n < 32) (w : World) : Calls Try.prog 121 #[.int .u32 (x.toNat : Int), .int .u64 (n : Int)] w fun e w' => e = .returned (.int .u32 ((rot x n).toNat : Int)) ∧ w = w' := by
  go_enter Try.func121, Try.ntmps121
  go_wp2
  go_ret
  exact ⟨ret_int (or_rot x n), rfl⟩
theorem u32_xor (x y : UInt32) : bits .xor .u32 (x.toNat : Int) (y.toNat : Int) = ((x ^^^ y).toNat : Int) := by
  rw [u32_xor_nat _ _ x.toNat_lt y.toNat_lt, UInt32.toNat_xor]
theorem u32_and (x y : UInt32) : bits .and .u32 (x.toNat : Int) (y.toNat : Int) = ((x &&& y).toNat : Int) := by
  rw [u32_and_nat _ _ x.toNat_lt y.toNat_lt, UInt32.toNat_and]
theorem u32_or (x y : UInt32) : bits .or .u32 (x.toNat : Int) (y.toNat : Int) = ((x ||| y).toNat : Int) := by
  rw [u32_or_nat _ _ x.toNat_lt y.toNat_lt, UInt32.toNat_or]
theorem u32_add (x y : UInt32) : ((x.toNat : Int) + (y.toNat : Int)) % 4294967296 = ((x + y).toNat : Int) := by
  rw [UInt32.toNat_add]
  omega
theorem turnV_snoc (x : UInt32) (l : List Nat) (n : Nat) : turnV x (l ++ [n]) = turnV x l ^^^ rot x n := by unfold turnV; rw [List.foldl_append]; rfl
structure TurnedR (x : UInt32) (ns : List Nat) (o k : Value) (t : Nat) : Prop where
  le : t ≤ ns.length
  k : k = .int .i64 (t : Int)
  o : o = .int .u32 ((turnV x (ns.take t)).toNat : Int)
set_option maxRecDepth 100000 in
set_option maxHeartbeats 1000000 in
theorem turned_c (x : UInt32) (ns : List Nat) (b cap : Nat) (hn : ∀ n ∈ ns, 0 < n ∧ n < 32) (hl : ns.length < 100) (w : World) (hc : ∀ j (h : j < ns.length), w.cell? ⟨b, j, none⟩ = some (.int .i64 (ns[j] : Int))) :
    Calls Try.prog 118 #[.int .u32 (x.toNat : Int), .slice (some ⟨b, 0, none⟩) ns.length cap] w fun e w' => e = .returned (.int .u32 ((turnV x ns).toNat : Int)) ∧ w = w' := by
  have HC := Lib.hid hc
  clear hc
  go_enter Try.func118, Try.ntmps118
  go_wp2
  go_loop [5, 10] (fun o k => ∃ t, TurnedR x ns o k t) (fun _ k => (ns.length - intOf k).toNat)
  case atStart => exact ⟨0, Nat.zero_le _, rfl, rfl⟩
  case round =>
    obtain ⟨t, le, rfl, rfl⟩ := hrel
    rcases Nat.lt_or_ge t ns.length with hlt | hge
    · have hcell := HC.out t hlt
      have hb := hn _ (List.getElem_mem hlt)
      have R := rotl_c x ns[t] hb.1 hb.2
      have hx := u32_xor (turnV x (ns.take t)) (rot x ns[t])
      rw [← turnV_snoc, ← List.take_succ_eq_append_getElem hlt] at hx
      generalize ns[t] = n at *
      go_wp2_with (go_at_call 136; (with_reducible refine (R _).mono ?_); rintro e w1 ⟨rfl, rfl⟩)
      go_round
      case rel => exact ⟨t + 1, hlt, by go_num, rfl⟩
      case measure => simp only [intOf]; omega
    · obtain rfl : t = ns.length := by omega
      go_wp2
      go_ret
      exact ⟨ret_int rfl, rfl⟩
theorem turned_2 (x : UInt32) (m n : Nat) (b : Nat) (t : TypeId) (hm : 0 < m ∧ m < 32) (hn : 0 < n ∧ n < 32) (w : World) (h : w.heap[b]? = some (.cells #[.int .i64 (m : Int), .int .i64 (n : Int)] t (0, 0))) :
    Calls Try.prog 118 #[.int .u32 (x.toNat : Int), .slice (some ⟨b, 0, none⟩) 2 2] w fun e w' => e = .returned (.int .u32 ((turnV x [m, n]).toNat : Int)) ∧ Below w.heap.size w w' :=
  (turned_c x [m, n] b 2 (by intro k hk; simp at hk; rcases hk with rfl | rfl <;> assumption) (by simp) w fun j hj => by
    rw [cell_of_row w b j _ _ _ h]
    match j, hj with
    | 0, _ => rfl
    | 1, _ => rfl).mono fun e w' ⟨he, hw⟩ => ⟨he, hw ▸ Below.refl _ _⟩
theorem turned_3 (x : UInt32) (m n o : Nat) (b : Nat) (t : TypeId) (hm : 0 < m ∧ m < 32) (hn : 0 < n ∧ n < 32) (ho : 0 < o ∧ o < 32) (w : World) (h : w.heap[b]? = some (.cells #[.int .i64 (m : Int), .int .i64 (n : Int), .int .i64 (o : Int)] t (0, 0))) :
    Calls Try.prog 118 #[.int .u32 (x.toNat : Int), .slice (some ⟨b, 0, none⟩) 3 3] w fun e w' => e = .returned (.int .u32 ((turnV x [m, n, o]).toNat : Int)) ∧ Below w.heap.size w w' :=
  (turned_c x [m, n, o] b 3 (by intro k hk; simp at hk; rcases hk with rfl | rfl | rfl <;> assumption) (by simp) w fun j hj => by
    rw [cell_of_row w b j _ _ _ h]
    match j, hj with
    | 0, _ => rfl
    | 1, _ => rfl
    | 2, _ => rfl).mono fun e w' ⟨he, hw⟩ => ⟨he, hw ▸ Below.refl _ _⟩
end Go.Proofs.Ytkgjgdeaclefiaa
