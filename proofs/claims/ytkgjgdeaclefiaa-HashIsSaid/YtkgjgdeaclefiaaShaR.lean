/-
  florinref02: Sane, Pad.
-/
import Derived.Test.YtkgjgdeaclefiaaShaF
namespace Go.Proofs.Ytkgjgdeaclefiaa
open Go Go.Proofs Go.RowKit Go.Flo

set_option maxRecDepth 100000 in
set_option maxHeartbeats 2000000 in
theorem rsane_c (V : Value) (s : ShaS) (w0 : World) (hV : RdS w0 V s) : Calls Try.prog 57 #[V] w0 fun e w' => e = .returned (.bool (saneS s)) ∧ Below w0.heap.size w0 w' := by
  obtain ⟨⟨a, b, c, d, e, f, g, k, v, rfl, hs, hr⟩, hn, hl⟩ := hV
  obtain ⟨h, rest, n⟩ := s
  obtain ⟨p, cap, rfl⟩ := hr.shape
  clear hr hs
  have hs : saneS ⟨h, rest, n⟩ = decide (rest.length = n % 64) := rfl
  rw [hs]
  clear hs
  dsimp only at hn hl ⊢
  have e : ((rest.length : Int) == ((n : Int) % 64)) = decide (rest.length = n % 64) := by
    rw [Bool.eq_iff_iff]; simp; omega
  generalize rest.length = m at *
  generalize decide (m = n % 64) = q at *
  have M := Mem.nil w0; have F := Mem.facts M; simp only [MemFacts] at F; (try simp only [ApartFacts] at F)
  go_enter Try.func57, Try.ntmps57
  go_wp2
  (go_wp2_with (fail); refine bodyPost_ret (v := .bool q) (by simp [results, Try.results57, go_sem]) rfl ⟨rfl, (Mem.below (w0 := w0) (by repeat' (first | (with_reducible exact M) | (with_reducible apply Mem.drew) | (with_reducible apply Mem.alloc))))⟩)
def padZ (t : Nat) : List UInt8 := 128 :: List.replicate t 0
theorem padZ_next (t : Nat) : padZ (t + 1) = padZ t ++ [0] := by
  unfold padZ
  rw [List.replicate_succ', List.cons_append]
theorem padZ_length (t : Nat) : (padZ t).length = 1 + t := by simp [padZ]; omega
structure RPad0 (n : Nat) (w0 : World) (v : Value) (wr : World) (t : Nat) : Prop where
  le : t ≤ zerosN n
  mem : Mem w0 wr [.s v 5 1 (1 + t) ((padZ t).map fun x => Value.int .u8 (x.toNat : Int))]
def slLn : Value → Nat
  | .slice _ n _ => n
  | _ => 0
set_option maxRecDepth 100000 in
set_option maxHeartbeats 2000000 in
theorem rpad_c (n : Nat) (hn : n < 18446744073709551616) (w0 : World) :
    Calls Try.prog 56 #[.int .u64 (n : Int)] w0 fun e w' => ∃ v, e = .returned v ∧ Rd8 w' v (padV n) ∧ Below w0.heap.size w0 w' := by
  obtain ⟨i0, HI⟩ := info8
  have hz : zerosN n ≤ 64 := by unfold zerosN; omega
  have M := Mem.nil w0; have F := Mem.facts M; simp only [MemFacts] at F; (try simp only [ApartFacts] at F)
  go_enter Try.func56, Try.ntmps56
  go_wp2
  replace M := Mem.owned (w0 := w0) 0 1 1 1 (Mem.alloc M (cs := #[.int .u8 128]) (t := 5)) (by rfl) (by decide) (by decide) (by rfl)
  go_loopw [3] (fun v wr => ∃ t, RPad0 n w0 v wr t) (fun v _ => zerosN n + 1 - slLn v)
  case atStart => exact ⟨0, Nat.zero_le _, M⟩
  case round =>
    clear M F
    obtain ⟨t, le, M⟩ := hrel
    obtain ⟨p, cap, rfl⟩ := M.shape 0 rfl
    have hlt64 : (t : Int) ≤ 64 := by omega
    rcases Nat.lt_or_ge t (zerosN n) with hlt | hge
    · have hq : ((n : Int) % 64 + (1 + (t : Int)) + 8) % 64 ≠ 0 := by unfold zerosN at hlt; omega
      go_wp2_with (at_builtin; (refine wl_append _ (w0 := w0) 1 (Mem.alloc M) rfl rfl _ _ 42 rfl i0 _ _ Try.underlying42 HI.out.1 HI.out.2.1 HI.out.2.2.1 HI.out.2.2.2 rfl (by decide) rfl ⟨wr.heap.size, 0, none⟩ 1 1 [.int .u8 0] rfl rfl (new_cells _ _ _) (by simp [Value.oneCell']) (by unfold maxLen; omega) (by omega) ?_); clear M; intro v w1 M)
      replace M := M.pick [1] (by decide)
      simp only [List.set_cons_succ, List.set_cons_zero, List.filterMap_cons, List.getElem?_cons_succ, List.getElem?_cons_zero, List.filterMap_nil] at M
      obtain ⟨p2, c2, rfl⟩ := M.shape 0 rfl
      rw [show (padZ t).map (fun x => Value.int .u8 (x.toNat : Int)) ++ [.int .u8 0] = (padZ (t + 1)).map (fun x => Value.int .u8 (x.toNat : Int)) by rw [padZ_next, List.map_append]; rfl] at M
      exact ⟨⟨t + 1, hlt, M⟩, by simp only [slLn]; omega⟩
    · obtain rfl : t = zerosN n := by omega
      have hq : ((n : Int) % 64 + (1 + ((zerosN n : Nat) : Int)) + 8) % 64 = 0 := by unfold zerosN; omega
      go_wp2
      clear hq le hge hlt64 hz
      rw [show 1 + zerosN n = (padP n 0).length by simp [padP]; omega, show padZ (zerosN n) = padP n 0 by simp [padP, padZ]] at M
      go_loopw [3, 5] (fun v k wr => ∃ t, PadR n w0 v k wr t) (fun _ k _ => (intOf k + 1).toNat)
      case atStart => exact ⟨0, Nat.zero_le _, rfl, by rw [show (1 : Nat) + zerosN n = (padP n 0).length by simp [padP]; omega]; exact M⟩
      case round =>
        clear M
        obtain ⟨t, le, rfl, M⟩ := hrel
        obtain ⟨p, cap, rfl⟩ := M.shape 0 rfl
        rcases Nat.lt_or_ge t 8 with hlt | hge
        · have hlt' : 0 ≤ 7 - (t : Int) := by omega
          have hlt2 : (t : Int) ≤ 7 := by omega
          have hb := pad_byte n t hlt
          have hb2 := hb
          rw [Nat.mul_comm (7 - t) 8] at hb2
          have hp : padP n (t + 1) = padP n t ++ [byteV (n * 8 % 2 ^ 64) (7 - t)] := by unfold padP; rw [tailV_take n hlt]; simp
          have hl : (padP n t).length ≤ 80 := by unfold padP; rw [List.length_cons, List.length_append, List.length_replicate, List.length_take, tailV_length]; unfold zerosN; omega
          generalize byteV (n * 8 % 2 ^ 64) (7 - t) = y at *
          have HP := Lib.hid hp
          have HL := Lib.hid hl
          clear hp hl
          go_wp2_with (at_builtin; (refine wl_append _ (w0 := w0) 1 (Mem.alloc M) rfl rfl _ _ 42 rfl i0 _ _ Try.underlying42 HI.out.1 HI.out.2.1 HI.out.2.2.1 HI.out.2.2.2 rfl (by decide) rfl ⟨wr.heap.size, 0, none⟩ 1 1 [.int .u8 (y.toNat : Int)] rfl rfl (new_cells _ _ _) (by simp [Value.oneCell']) (by have := HL.out; unfold maxLen; omega) (by have := HL.out; omega) ?_); clear M; intro v w1 M)
          replace M := M.pick [1] (by decide)
          simp only [List.set_cons_succ, List.set_cons_zero, List.filterMap_cons, List.getElem?_cons_succ, List.getElem?_cons_zero, List.filterMap_nil] at M
          rw [show (padP n t).map (fun x => Value.int .u8 (x.toNat : Int)) ++ [.int .u8 (y.toNat : Int)] = (padP n (t + 1)).map (fun x => Value.int .u8 (x.toNat : Int)) by rw [HP.out]; simp, show (padP n t).length + 1 = (padP n (t + 1)).length by rw [HP.out]; simp] at M
          refine ⟨⟨t + 1, by omega, ?_, M⟩, by simp only [intOf]; omega⟩
          congr 1
          omega
        · obtain rfl : t = 8 := by omega
          rw [padP_end] at M
          have hr := Mem.rdOwn 0 M rfl
          rw [padP_end]
          have HR := Lib.hid hr
          have hb := M.below
          clear hr
          go_wp2
          go_ret
          exact ⟨_, rfl, HR.out, hb⟩
end Go.Proofs.Ytkgjgdeaclefiaa
