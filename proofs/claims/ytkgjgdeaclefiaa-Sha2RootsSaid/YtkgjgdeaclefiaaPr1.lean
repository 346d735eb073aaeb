/-
  florinlaw02.prime, cube.
-/
import Derived.Test.YtkgjgdeaclefiaaShaL
import Derived.Test.YtkgjgdeaclefiaaMk
namespace Go.Proofs.Ytkgjgdeaclefiaa
open Go Go.Proofs Go.RowKit Go.Flo

/-- Is it no multiple, from this divisor on. -/
def inn (n : Nat) : Nat → Nat → Bool → Bool
  | 0, _, b => b
  | k + 1, d, b => if d * d ≤ n then inn n k (d + 1) (b && decide (n % d ≠ 0)) else b
def isPr (n : Nat) : Bool := inn n 30 2 true
/-- The prime of a number, from this one on. -/
def outP2 (i : Nat) : Nat → Nat → Nat → Nat
  | 0, n, _ => n
  | m + 1, n, k => if (isPr n = true ∧ k = i) ∨ 400 < n then n else outP2 i m (n + 1) (if isPr n = true then k + 1 else k)
def primeN (i : Nat) : Nat := outP2 i 500 2 0
structure InnR (n : Nat) (w0 : World) (iv dv : Value) (wr : World) (t : Nat) (b : Bool) : Prop where
  le : t ≤ 20
  iv : iv = .bool b
  dv : dv = .int .u64 ((2 + t : Nat) : Int)
  eq : inn n (30 - t) (2 + t) b = isPr n
  w : wr = w0
structure OutR (i : Nat) (w0 : World) (nv kv : Value) (wr : World) (t k : Nat) : Prop where
  le : t ≤ 399
  kle : k ≤ t
  nv : nv = .int .u64 ((2 + t : Nat) : Int)
  kv : kv = .int .i64 (k : Int)
  eq : outP2 i (500 - t) (2 + t) k = primeN i
  w : wr = w0
def intU : Value → Int
  | .int _ x => x
  | _ => 0
set_option maxRecDepth 100000 in
set_option maxHeartbeats 4000000 in
theorem prime_c (i : Nat) (w0 : World) : Calls Try.prog 94 #[.int .i64 (i : Int)] w0 fun e w' => e = .returned (.int .u64 (primeN i : Int)) ∧ w0 = w' := by
  go_enter Try.func94, Try.ntmps94
  go_wp2
  go_loopw [3, 4] (fun nv kv wr => ∃ t k, OutR i w0 nv kv wr t k) (fun nv _ _ => (500 - intU nv).toNat)
  case atStart => exact ⟨0, 0, by decide, by decide, rfl, rfl, rfl, rfl⟩
  case round =>
    obtain ⟨t, k, le, kle, rfl, rfl, eq, rfl⟩ := hrel
    obtain ⟨n, hn⟩ : ∃ n, n = 2 + t := ⟨_, rfl⟩
    rw [← hn] at eq ⊢
    have HN := Lib.hid hn
    have hn1 : (2 : Int) ≤ (n : Int) := by omega
    have hn2 : (n : Int) ≤ 401 := by omega
    clear hn
    go_wp2
    go_loopw [5, 6] (fun iv dv wx => ∃ s b, InnR n wr iv dv wx s b) (fun _ dv _ => (500 - intU dv).toNat)
    case atStart => exact ⟨0, true, by decide, rfl, rfl, rfl, rfl⟩
    case round =>
      obtain ⟨s, b, sle, rfl, rfl, ieq, hwx⟩ := hrel
      subst hwx
      obtain ⟨d, hd⟩ : ∃ d, d = 2 + s := ⟨_, rfl⟩
      rw [← hd] at ieq ⊢
      have hst : inn n (30 - s) d b = if d * d ≤ n then inn n (29 - s) (d + 1) (b && decide (n % d ≠ 0)) else b := by
        rw [show 30 - s = (29 - s) + 1 by omega]; rfl
      rw [hst] at ieq
      have hm : (d : Int) * (d : Int) = ((d * d : Nat) : Int) := by rw [Int.natCast_mul]
      have hd1 : (2 : Int) ≤ (d : Int) := by omega
      have hd2 : (d : Int) ≤ 22 := by omega
      have hdd : d * d ≤ 22 * 22 := Nat.mul_le_mul (by omega) (by omega)
      have hbig : 21 ≤ d → 21 * 21 ≤ d * d := fun h => Nat.mul_le_mul h h
      have hmod : ((n : Int) % (d : Int)) = ((n % d : Nat) : Int) := by rw [Int.natCast_emod]
      obtain ⟨dd, hdd2⟩ : ∃ x, x = d * d := ⟨_, rfl⟩
      rw [← hdd2] at hm hdd hbig ieq
      obtain ⟨r, hr⟩ : ∃ x, x = n % d := ⟨_, rfl⟩
      rw [← hr] at hmod ieq
      have hdi : (dd : Int) ≤ 484 := by omega
      have HD := Lib.hid hd
      have HE := Lib.hid ieq
      have HB := Lib.hid hbig
      have HEQ := Lib.hid eq
      clear hd ieq hst hdd hbig hdd2 hr eq
      by_cases hq : dd ≤ n
      · have hq' : (dd : Int) ≤ (n : Int) := by omega
        have hs : s + 1 ≤ 20 := by
          have := HB.out
          have := HD.out
          omega
        rcases b with _ | _
        · go_wp2
          refine ⟨⟨s + 1, false, hs, rfl, by rw [HD.out]; congr 1 <;> omega, ?_, rfl⟩, by simp only [intU]; omega⟩
          have h := HE.out
          rw [if_pos hq, HD.out] at h
          rw [show 30 - (s + 1) = 29 - s by omega, show 2 + (s + 1) = 2 + s + 1 by omega]
          exact h
        · rcases Nat.eq_zero_or_pos r with h0 | h0
          · subst h0
            rw [show ((0 : Nat) : Int) = 0 from rfl] at hmod
            go_wp2
            refine ⟨⟨s + 1, false, hs, by simp, by rw [HD.out]; congr 1 <;> omega, ?_, rfl⟩, by simp only [intU]; omega⟩
            have h := HE.out
            rw [if_pos hq, HD.out] at h
            rw [show 30 - (s + 1) = 29 - s by omega, show 2 + (s + 1) = 2 + s + 1 by omega]
            exact h
          · have hr1 : ((r : Int) != 0) = true := by rw [bne_iff_ne]; omega
            go_wp2
            refine ⟨⟨s + 1, true, hs, by simp [hr1], by rw [HD.out]; congr 1 <;> omega, ?_, rfl⟩, by simp only [intU]; omega⟩
            have h := HE.out
            rw [if_pos hq, HD.out, decide_eq_true (by omega : r ≠ 0)] at h
            rw [show 30 - (s + 1) = 29 - s by omega, show 2 + (s + 1) = 2 + s + 1 by omega]
            exact h
      · have hq' : ¬ ((dd : Int) ≤ (n : Int)) := by omega
        have hb := HE.out
        rw [if_neg hq] at hb
        have heq := HEQ.out
        rw [show 500 - t = (499 - t) + 1 by omega] at heq
        have hst : outP2 i ((499 - t) + 1) n k = if (isPr n = true ∧ k = i) ∨ 400 < n then n else outP2 i (499 - t) (n + 1) (if isPr n = true then k + 1 else k) := rfl
        rw [hst, ← hb] at heq
        have HQ := Lib.hid heq
        clear heq hst hb
        rcases b with _ | _
        · by_cases h4 : 400 < n
          · have h4' : 400 < (n : Int) := by omega
            have h := HQ.out
            rw [if_pos (.inr h4)] at h
            have HF := Lib.hid h
            clear h
            go_wp2
            go_ret
            exact ⟨by rw [← HF.out]; rfl, rfl⟩
          · have h4' : ¬ (400 < (n : Int)) := by omega
            have h := HQ.out
            rw [if_neg (fun h => h.elim (fun h => by cases h.1) h4), if_neg (by decide)] at h
            have HF := Lib.hid h
            clear h
            go_wp2
            have hx := HN.out
            refine ⟨⟨t + 1, k, by omega, by omega, by rw [hx]; congr 1 <;> omega, rfl, ?_, rfl⟩, by simp only [intU]; omega⟩
            rw [← HF.out, show 500 - (t + 1) = 499 - t by omega, show 2 + (t + 1) = n + 1 by omega]
        · by_cases hki : k = i
          · subst hki
            have h := HQ.out
            rw [if_pos (.inl ⟨rfl, rfl⟩)] at h
            have HF := Lib.hid h
            clear h
            go_wp2
            go_ret
            exact ⟨by rw [← HF.out]; rfl, rfl⟩
          · have hk1 : ((k : Int) == (i : Int)) = false := by rw [beq_eq_false_iff_ne]; omega
            by_cases h4 : 400 < n
            · have h4' : 400 < (n : Int) := by omega
              have h := HQ.out
              rw [if_pos (.inr h4)] at h
              have HF := Lib.hid h
              clear h
              go_wp2
              go_ret
              exact ⟨by rw [← HF.out]; rfl, rfl⟩
            · have h4' : ¬ (400 < (n : Int)) := by omega
              have h := HQ.out
              rw [if_neg (fun h => h.elim (fun h => hki h.2) h4), if_pos rfl] at h
              have HF := Lib.hid h
              clear h
              have hk2 : (k : Int) ≤ 399 := by omega
              go_wp2
              have hx := HN.out
              refine ⟨⟨t + 1, k + 1, by omega, by omega, by rw [hx]; congr 1 <;> omega, by simp, ?_, rfl⟩, by simp only [intU]; omega⟩
              rw [← HF.out, show 500 - (t + 1) = 499 - t by omega, show 2 + (t + 1) = n + 1 by omega]
end Go.Proofs.Ytkgjgdeaclefiaa
