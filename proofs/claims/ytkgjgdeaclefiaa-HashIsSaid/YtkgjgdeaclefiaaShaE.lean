/-
  sha2: Start, Sane, Pad.
-/
import Derived.Test.YtkgjgdeaclefiaaShaD
import Derived.Test.YtkgjgdeaclefiaaWz
import Derived.Lib.AppendStr
namespace Go.Proofs.Ytkgjgdeaclefiaa
open Go Go.Proofs Go.RowKit Go.Flo

/-- A state's ten cells. -/
abbrev st10 (a b c d e f g h : UInt32) (v : Value) (n : Nat) : Value :=
  .agg #[.int .u32 (a.toNat : Int), .int .u32 (b.toNat : Int), .int .u32 (c.toNat : Int), .int .u32 (d.toNat : Int), .int .u32 (e.toNat : Int), .int .u32 (f.toNat : Int), .int .u32 (g.toNat : Int), .int .u32 (h.toNat : Int), v, .int .u64 (n : Int)]
/-- A value reads as a state. -/
structure RdS (w : World) (V : Value) (s : ShaS) : Prop where
  ex : ∃ a b c d e f g h v, V = st10 a b c d e f g h v s.n ∧ s.h = [a, b, c, d, e, f, g, h] ∧ Rd8 w v s.rest
  n : s.n < 18446744073709551616
  len : s.rest.length ≤ 1000000
theorem RdS.below {w w' : World} {V : Value} {s : ShaS} (h : RdS w V s) (hb : Below w.heap.size w w') : RdS w' V s := by
  obtain ⟨⟨a, b, c, d, e, f, g, k, v, h1, h2, h3⟩, h4, h5⟩ := h
  exact ⟨⟨a, b, c, d, e, f, g, k, v, h1, h2, h3.below hb⟩, h4, h5⟩
theorem rd8_nil (w : World) (a : Option Addr) (cap : Nat) : Rd8 w (.slice a 0 cap) [] := .inl ⟨rfl, a, cap, rfl⟩
abbrev startC : Value := st10 0x6a09e667 0xbb67ae85 0x3c6ef372 0xa54ff53a 0x510e527f 0x9b05688c 0x1f83d9ab 0x5be0cd19 (.slice none 0 0) 0
theorem rdS_start (w : World) : RdS w startC startS := ⟨⟨_, _, _, _, _, _, _, _, _, rfl, rfl, rd8_nil _ _ _⟩, by decide, by decide⟩
set_option maxRecDepth 100000 in
set_option maxHeartbeats 2000000 in
theorem start_c : Gives 41 #[] startC := fun w0 => by
  have C1 := initials_c
  rw [show wA h0L = #[.int .u32 1779033703, .int .u32 3144134277, .int .u32 1013904242, .int .u32 2773480762, .int .u32 1359893119, .int .u32 2600822924, .int .u32 528734635, .int .u32 1541459225] by unfold wA; kernel_rfl] at C1
  have M := Mem.nil w0; have F := Mem.facts M; simp only [MemFacts] at F; (try simp only [ApartFacts] at F)
  go_enter Try.func41, Try.ntmps41
  go_wp2_with (first | (go_at_call 115; (refine (C1 _).mono ?_); rintro e w1 ⟨rfl, hb⟩; replace M := Mem.call (w0 := w0) (by repeat' (first | (with_reducible exact M) | (with_reducible apply Mem.drew) | (with_reducible apply Mem.alloc))) hb; clear hb; (try clear F); (try simp only [World.size_alloc] at M); (try simp only [heap_drew] at M); have F := Mem.facts M; simp only [MemFacts] at F; (try simp only [ApartFacts] at F)))
  have M2 := M.put10 0 rfl (.int .u32 1779033703) (.int .u32 3144134277) (.int .u32 1013904242) (.int .u32 2773480762) (.int .u32 1359893119) (.int .u32 2600822924) (.int .u32 528734635) (.int .u32 1541459225) (.slice none 0 0) (.int .u64 0)
  have hc := fun j => cell_of_row _ _ j _ _ _ (M2.at 0 rfl)
  refine bodyPost_ret (v := startC) (by simp [results, Try.results41, go_sem, hc]) rfl ⟨rfl, M2.below⟩
set_option maxRecDepth 100000 in
set_option maxHeartbeats 2000000 in
theorem sane_c (V : Value) (s : ShaS) (w0 : World) (hV : RdS w0 V s) : Calls Try.prog 46 #[V] w0 fun e w' => e = .returned (.bool (saneS s)) ∧ Below w0.heap.size w0 w' := by
  obtain ⟨⟨a, b, c, d, e, f, g, k, v, rfl, hs, hr⟩, hn, hl⟩ := hV
  obtain ⟨h, rest, n⟩ := s
  obtain ⟨p, cap, rfl⟩ := hr.shape
  clear hr hs
  have hs : saneS ⟨h, rest, n⟩ = decide (rest.length = n % 64) := rfl
  rw [hs]
  clear hs
  dsimp only at hn hl ⊢
  have e : ((rest.length : Int) == ((n : Int) % 64)) = decide (rest.length = n % 64) := by
    rw [Bool.eq_iff_iff]; simp; omega
  generalize rest.length = m at *
  generalize decide (m = n % 64) = q at *
  have M := Mem.nil w0; have F := Mem.facts M; simp only [MemFacts] at F; (try simp only [ApartFacts] at F)
  go_enter Try.func46, Try.ntmps46
  go_wp2
  (go_wp2_with (fail); refine bodyPost_ret (v := .bool q) (by simp [results, Try.results46, go_sem]) rfl ⟨rfl, (Mem.below (w0 := w0) (by repeat' (first | (with_reducible exact M) | (with_reducible apply Mem.drew) | (with_reducible apply Mem.alloc))))⟩)
theorem tailV_length (n : Nat) : (tailV n).length = 8 := by simp [tailV]
theorem tailV_take (n : Nat) {t : Nat} (ht : t < 8) : (tailV n).take (t + 1) = (tailV n).take t ++ [byteV (n * 8 % 2 ^ 64) (7 - t)] := by
  rw [List.take_succ_eq_append_getElem (by rw [tailV_length]; exact ht)]
  congr 2
  simp [tailV]
/-- What stands when t bytes of the count have come. -/
def padP (n t : Nat) : List UInt8 := 128 :: (List.replicate (zerosN n) 0 ++ (tailV n).take t)
theorem padP_end (n : Nat) : padP n 8 = padV n := by unfold padP padV; rw [List.take_of_length_le (by rw [tailV_length]; omega)]
structure PadR (n : Nat) (w0 : World) (v k : Value) (wr : World) (t : Nat) : Prop where
  le : t ≤ 8
  k : k = .int .i64 (7 - (t : Int))
  mem : Mem w0 wr [.s v 5 1 (padP n t).length ((padP n t).map fun x => Value.int .u8 (x.toNat : Int))]
theorem pad_byte (n t : Nat) (_ht : t < 8) : IntKind.u64.wrap ((n : Int) * 8) / 2 ^ ((7 - t) * 8) % 256 = ((byteV (n * 8 % 2 ^ 64) (7 - t)).toNat : Int) := by
  unfold byteV
  rw [UInt8.toNat_ofNat', Nat.mul_comm (7 - t) 8, IntKind.wrap_u64]
  rw [Int.natCast_emod, Int.natCast_ediv, Int.natCast_emod, Int.natCast_mul, Int.natCast_pow]
  rfl
set_option maxRecDepth 100000 in
set_option maxHeartbeats 2000000 in
theorem pad_c (n : Nat) (hn : n < 18446744073709551616) (w0 : World) :
    Calls Try.prog 47 #[.int .u64 (n : Int)] w0 fun e w' => ∃ v, e = .returned v ∧ Rd8 w' v (padV n) ∧ Below w0.heap.size w0 w' := by
  have h1 : (119 - (n : Int)) % 64 = ((zerosN n : Nat) : Int) := by unfold zerosN; omega
  have h2 : (119 - (n : Int) % 64) % 64 = ((zerosN n : Nat) : Int) := by unfold zerosN; omega
  obtain ⟨i0, hi, hz0, hz1, hz2⟩ := info_parts (show (Try.prog.info? 5).map (fun i => (i.zero, i.size, i.bytes)) = some (some (.int .u8 0), 1, 1) by kernel_rfl)
  have hz : zerosN n ≤ 64 := by unfold zerosN; omega
  have HI := Lib.hid (And.intro hi (And.intro hz0 (And.intro hz1 hz2)))
  clear hi hz0 hz1 hz2
  have M := Mem.nil w0; have F := Mem.facts M; simp only [MemFacts] at F; (try simp only [ApartFacts] at F)
  go_enter Try.func47, Try.ntmps47
  go_wp2_with (at_builtin; (refine wl_appzeros (w0 := w0) 0 (Mem.owned (w0 := w0) 0 1 1 1 (Mem.alloc M) (by rfl) (by decide) (by decide) (by rfl)) rfl rfl _ _ 42 3 rfl i0 _ _ Try.underlying42 Try.underlying3 HI.out.1 HI.out.2.1 HI.out.2.2.1 HI.out.2.2.2 rfl (zerosN n) _ rfl (by first | exact h2 | exact h1 | rfl) (by omega) ?_); clear M F; intro v w1 M)
  rw [show 1 + zerosN n = (padP n 0).length by simp [padP]; omega, show (#[Value.int .u8 128].toList.take (1 * 1) ++ List.replicate (zerosN n) (Value.int .u8 0)) = (padP n 0).map (fun x => Value.int .u8 (x.toNat : Int)) by simp [padP]] at M
  clear h1 h2
  go_loopw [4, 5] (fun v k wr => ∃ t, PadR n w0 v k wr t) (fun _ k _ => (intOf k + 1).toNat)
  case atStart => exact ⟨0, Nat.zero_le _, rfl, M⟩
  case round =>
    clear M
    obtain ⟨t, le, rfl, M⟩ := hrel
    obtain ⟨p, cap, rfl⟩ := M.shape 0 rfl
    rcases Nat.lt_or_ge t 8 with hlt | hge
    · have hlt' : 0 ≤ 7 - (t : Int) := by omega
      have hlt2 : (t : Int) ≤ 7 := by omega
      have hb := pad_byte n t hlt
      have hp : padP n (t + 1) = padP n t ++ [byteV (n * 8 % 2 ^ 64) (7 - t)] := by unfold padP; rw [tailV_take n hlt]; simp
      have hl : (padP n t).length ≤ 80 := by unfold padP; rw [List.length_cons, List.length_append, List.length_replicate, List.length_take, tailV_length]; omega
      generalize byteV (n * 8 % 2 ^ 64) (7 - t) = y at *
      have HP := Lib.hid hp
      have HL := Lib.hid hl
      clear hp hl
      go_wp2_with (at_builtin; (refine wl_append _ (w0 := w0) 1 (Mem.alloc M) rfl rfl _ _ 42 rfl i0 _ _ Try.underlying42 HI.out.1 HI.out.2.1 HI.out.2.2.1 HI.out.2.2.2 rfl (by decide) rfl ⟨wr.heap.size, 0, none⟩ 1 1 [.int .u8 (y.toNat : Int)] rfl rfl (new_cells _ _ _) (by simp [Value.oneCell']) (by have := HL.out; unfold maxLen; omega) (by have := HL.out; omega) ?_); clear M; intro v w1 M)
      replace M := M.pick [1] (by decide)
      simp only [List.set_cons_succ, List.set_cons_zero, List.filterMap_cons, List.getElem?_cons_succ, List.getElem?_cons_zero, List.filterMap_nil] at M
      rw [show (padP n t).map (fun x => Value.int .u8 (x.toNat : Int)) ++ [.int .u8 (y.toNat : Int)] = (padP n (t + 1)).map (fun x => Value.int .u8 (x.toNat : Int)) by rw [HP.out]; simp, show (padP n t).length + 1 = (padP n (t + 1)).length by rw [HP.out]; simp] at M
      refine ⟨⟨t + 1, by omega, ?_, M⟩, by simp only [intOf]; omega⟩
      congr 1
      omega
    · obtain rfl : t = 8 := by omega
      rw [padP_end] at M
      have hr := Mem.rdOwn 0 M rfl
      rw [padP_end]
      have HR := Lib.hid hr
      have hb := M.below
      clear hr
      go_wp2
      go_ret
      exact ⟨_, rfl, HR.out, hb⟩
end Go.Proofs.Ytkgjgdeaclefiaa
