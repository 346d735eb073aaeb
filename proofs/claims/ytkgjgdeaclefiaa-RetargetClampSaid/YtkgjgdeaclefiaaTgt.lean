/-
  target.Expand, Shrink, Work.
-/
import Derived.Test.YtkgjgdeaclefiaaShifts
import Derived.Test.YtkgjgdeaclefiaaTgtP
import Derived.Laws.BitsAllLaws
namespace Go.Proofs.Ytkgjgdeaclefiaa
open Go Go.Proofs Go.RowKit Go.Flo

theorem and_man (b : Nat) (hb : b < 4294967296) : bits .and .u32 (b : Int) 8388607 = (manN b : Int) := by
  have h := u32_and_nat b 8388607 hb (by decide)
  rw [show (8388607 : Nat) = 2 ^ 23 - 1 from rfl, Nat.and_two_pow_sub_one_eq_mod] at h
  exact h
theorem and_sign (b : Nat) (hb : b < 4294967296) : (bits .and .u32 (b : Int) 8388608 != 0) = decide (b / 8388608 % 2 = 1) := by
  have h := u32_and_nat b 8388608 hb (by decide)
  rw [show (8388608 : Int) = ((8388608 : Nat) : Int) from rfl, h, show (8388608 : Nat) = 2 ^ 23 from rfl]
  have e : b.testBit 23 = decide (b / 2 ^ 23 % 2 = 1) := Nat.testBit_eq_decide_div_mod_eq
  rw [← e]
  cases hc : b.testBit 23 with
  | true =>
    rw [bne_iff_ne]
    intro h0
    have h1 : (b &&& 2 ^ 23).testBit 23 = true := by rw [Nat.testBit_and, hc, Nat.testBit_two_pow_self]; rfl
    rw [show b &&& 2 ^ 23 = 0 by omega] at h1
    simp at h1
  | false =>
    rw [bne_eq_false_iff_eq]
    have h1 : b &&& 2 ^ 23 = 0 := by
      apply Nat.eq_of_testBit_eq
      intro i
      rw [Nat.testBit_and, Nat.testBit_two_pow, Nat.zero_testBit]
      by_cases hi : 23 = i
      · rw [← hi, hc]; rfl
      · rw [decide_eq_false hi, Bool.and_false]
    rw [h1]; rfl

set_option maxRecDepth 100000 in
set_option maxHeartbeats 4000000 in
theorem expand_main (b m x y t : Nat) (up s : Int) (neg lo z sb : Bool) (w0 : World)
    (hm : bits .and .u32 (b : Int) 8388607 = (m : Int)) (hup : (b : Int) / 16777216 - 3 = up) (hs : bits .and .u32 (b : Int) 8388608 = s) (hsb : (s != 0) = sb)
    (O1 : Gives 72 #[.int .u64 (m : Int)] (uV m)) (S1 : Gives 74 #[uV m, .int .i64 (up * 8)] (.tuple #[uV x, .bool lo])) (S2 : Gives 76 #[uV m, .int .i64 (-up * 8)] (uV y))
    (hm0 : (m : Int) < 18446744073709551616) (hneg : decide (up < 0) = neg) (ht : t = bif neg then y else x) (hz : isZ t = z) (hu1 : -3 ≤ up) (hu2 : up ≤ 252) :
    Calls Try.prog 89 #[.int .u32 (b : Int)] w0 fun e w' => e = .returned (.tuple #[uV (bif lo || (z || sb) then 0 else t), .int .i64 (bif lo || (z || sb) then 7 else 0)]) ∧ Below w0.heap.size w0 w' := by
  unfold isZ at hz
  rcases neg with _ | _
  · simp only [cond_false] at ht
    subst ht
    rcases lo with _ | _
    · rcases z with _ | _
      · rcases sb with _ | _
        · have M := Mem.nil w0; have F := Mem.facts M; simp only [MemFacts] at F; (try simp only [ApartFacts] at F)
          go_enter Try.func89, Try.ntmps89
          go_wp2_with (first | (go_at_call 72; (with_reducible refine (O1 _).mono ?_); rintro e w1 ⟨rfl, hb⟩; replace M := Mem.call (w0 := w0) (by repeat' (first | (with_reducible exact M) | (with_reducible apply Mem.drew) | (with_reducible apply Mem.alloc))) hb; clear hb; (try clear F); (try simp only [World.size_alloc] at M); (try simp only [heap_drew] at M); have F := Mem.facts M; simp only [MemFacts] at F; (try simp only [ApartFacts] at F)) | (go_at_call 74; (with_reducible refine (S1 _).mono ?_); rintro e w1 ⟨rfl, hb⟩; replace M := Mem.call (w0 := w0) (by repeat' (first | (with_reducible exact M) | (with_reducible apply Mem.drew) | (with_reducible apply Mem.alloc))) hb; clear hb; (try clear F); (try simp only [World.size_alloc] at M); (try simp only [heap_drew] at M); have F := Mem.facts M; simp only [MemFacts] at F; (try simp only [ApartFacts] at F)) | (go_at_call 76; (with_reducible refine (S2 _).mono ?_); rintro e w1 ⟨rfl, hb⟩; replace M := Mem.call (w0 := w0) (by repeat' (first | (with_reducible exact M) | (with_reducible apply Mem.drew) | (with_reducible apply Mem.alloc))) hb; clear hb; (try clear F); (try simp only [World.size_alloc] at M); (try simp only [heap_drew] at M); have F := Mem.facts M; simp only [MemFacts] at F; (try simp only [ApartFacts] at F)))
          have M2 := (M.put4 1 rfl (.int .u64 (l0 t)) (.int .u64 (l1 t)) (.int .u64 (l2 t)) (.int .u64 (l3 t))).alloc (cs := #[.int .u64 (l0 t), .int .u64 (l1 t), .int .u64 (l2 t), .int .u64 (l3 t)]) (t := 32)
          (have hc := fun j => cell_of_row _ _ j _ _ _ (M2.at 2 rfl); refine bodyPost_ret (v := .tuple #[uV t, .int .i64 0]) (by simp [results, Try.results89, go_sem, hc]) rfl ⟨rfl, M2.below⟩)
        · have M := Mem.nil w0; have F := Mem.facts M; simp only [MemFacts] at F; (try simp only [ApartFacts] at F)
          go_enter Try.func89, Try.ntmps89
          go_wp2_with (first | (go_at_call 72; (with_reducible refine (O1 _).mono ?_); rintro e w1 ⟨rfl, hb⟩; replace M := Mem.call (w0 := w0) (by repeat' (first | (with_reducible exact M) | (with_reducible apply Mem.drew) | (with_reducible apply Mem.alloc))) hb; clear hb; (try clear F); (try simp only [World.size_alloc] at M); (try simp only [heap_drew] at M); have F := Mem.facts M; simp only [MemFacts] at F; (try simp only [ApartFacts] at F)) | (go_at_call 74; (with_reducible refine (S1 _).mono ?_); rintro e w1 ⟨rfl, hb⟩; replace M := Mem.call (w0 := w0) (by repeat' (first | (with_reducible exact M) | (with_reducible apply Mem.drew) | (with_reducible apply Mem.alloc))) hb; clear hb; (try clear F); (try simp only [World.size_alloc] at M); (try simp only [heap_drew] at M); have F := Mem.facts M; simp only [MemFacts] at F; (try simp only [ApartFacts] at F)) | (go_at_call 76; (with_reducible refine (S2 _).mono ?_); rintro e w1 ⟨rfl, hb⟩; replace M := Mem.call (w0 := w0) (by repeat' (first | (with_reducible exact M) | (with_reducible apply Mem.drew) | (with_reducible apply Mem.alloc))) hb; clear hb; (try clear F); (try simp only [World.size_alloc] at M); (try simp only [heap_drew] at M); have F := Mem.facts M; simp only [MemFacts] at F; (try simp only [ApartFacts] at F)))
          have M2 := (M.put4 1 rfl (.int .u64 (0)) (.int .u64 (0)) (.int .u64 (0)) (.int .u64 (0))).alloc (cs := #[.int .u64 (l0 t), .int .u64 (l1 t), .int .u64 (l2 t), .int .u64 (l3 t)]) (t := 32)
          simp only [Bool.false_or, Bool.true_or, Bool.or_true, cond_true]
          rw [← uV_zero]
          (have hc := fun j => cell_of_row _ _ j _ _ _ (M2.at 2 rfl); refine bodyPost_ret (v := .tuple #[.agg #[.int .u64 0, .int .u64 0, .int .u64 0, .int .u64 0], .int .i64 7]) (by simp [results, Try.results89, go_sem, hc]) rfl ⟨rfl, M2.below⟩)
      · have M := Mem.nil w0; have F := Mem.facts M; simp only [MemFacts] at F; (try simp only [ApartFacts] at F)
        go_enter Try.func89, Try.ntmps89
        go_wp2_with (first | (go_at_call 72; (with_reducible refine (O1 _).mono ?_); rintro e w1 ⟨rfl, hb⟩; replace M := Mem.call (w0 := w0) (by repeat' (first | (with_reducible exact M) | (with_reducible apply Mem.drew) | (with_reducible apply Mem.alloc))) hb; clear hb; (try clear F); (try simp only [World.size_alloc] at M); (try simp only [heap_drew] at M); have F := Mem.facts M; simp only [MemFacts] at F; (try simp only [ApartFacts] at F)) | (go_at_call 74; (with_reducible refine (S1 _).mono ?_); rintro e w1 ⟨rfl, hb⟩; replace M := Mem.call (w0 := w0) (by repeat' (first | (with_reducible exact M) | (with_reducible apply Mem.drew) | (with_reducible apply Mem.alloc))) hb; clear hb; (try clear F); (try simp only [World.size_alloc] at M); (try simp only [heap_drew] at M); have F := Mem.facts M; simp only [MemFacts] at F; (try simp only [ApartFacts] at F)) | (go_at_call 76; (with_reducible refine (S2 _).mono ?_); rintro e w1 ⟨rfl, hb⟩; replace M := Mem.call (w0 := w0) (by repeat' (first | (with_reducible exact M) | (with_reducible apply Mem.drew) | (with_reducible apply Mem.alloc))) hb; clear hb; (try clear F); (try simp only [World.size_alloc] at M); (try simp only [heap_drew] at M); have F := Mem.facts M; simp only [MemFacts] at F; (try simp only [ApartFacts] at F)))
        have M2 := (M.put4 1 rfl (.int .u64 (0)) (.int .u64 (0)) (.int .u64 (0)) (.int .u64 (0))).alloc (cs := #[.int .u64 (l0 t), .int .u64 (l1 t), .int .u64 (l2 t), .int .u64 (l3 t)]) (t := 32)
        simp only [Bool.false_or, Bool.true_or, Bool.or_true, cond_true]
        rw [← uV_zero]
        (have hc := fun j => cell_of_row _ _ j _ _ _ (M2.at 2 rfl); refine bodyPost_ret (v := .tuple #[.agg #[.int .u64 0, .int .u64 0, .int .u64 0, .int .u64 0], .int .i64 7]) (by simp [results, Try.results89, go_sem, hc]) rfl ⟨rfl, M2.below⟩)
    · have M := Mem.nil w0; have F := Mem.facts M; simp only [MemFacts] at F; (try simp only [ApartFacts] at F)
      go_enter Try.func89, Try.ntmps89
      go_wp2_with (first | (go_at_call 72; (with_reducible refine (O1 _).mono ?_); rintro e w1 ⟨rfl, hb⟩; replace M := Mem.call (w0 := w0) (by repeat' (first | (with_reducible exact M) | (with_reducible apply Mem.drew) | (with_reducible apply Mem.alloc))) hb; clear hb; (try clear F); (try simp only [World.size_alloc] at M); (try simp only [heap_drew] at M); have F := Mem.facts M; simp only [MemFacts] at F; (try simp only [ApartFacts] at F)) | (go_at_call 74; (with_reducible refine (S1 _).mono ?_); rintro e w1 ⟨rfl, hb⟩; replace M := Mem.call (w0 := w0) (by repeat' (first | (with_reducible exact M) | (with_reducible apply Mem.drew) | (with_reducible apply Mem.alloc))) hb; clear hb; (try clear F); (try simp only [World.size_alloc] at M); (try simp only [heap_drew] at M); have F := Mem.facts M; simp only [MemFacts] at F; (try simp only [ApartFacts] at F)) | (go_at_call 76; (with_reducible refine (S2 _).mono ?_); rintro e w1 ⟨rfl, hb⟩; replace M := Mem.call (w0 := w0) (by repeat' (first | (with_reducible exact M) | (with_reducible apply Mem.drew) | (with_reducible apply Mem.alloc))) hb; clear hb; (try clear F); (try simp only [World.size_alloc] at M); (try simp only [heap_drew] at M); have F := Mem.facts M; simp only [MemFacts] at F; (try simp only [ApartFacts] at F)))
      have M2 := (M.put4 1 rfl (.int .u64 (0)) (.int .u64 (0)) (.int .u64 (0)) (.int .u64 (0))).alloc (cs := #[.int .u64 (l0 t), .int .u64 (l1 t), .int .u64 (l2 t), .int .u64 (l3 t)]) (t := 32)
      simp only [Bool.false_or, Bool.true_or, Bool.or_true, cond_true]
      rw [← uV_zero]
      (have hc := fun j => cell_of_row _ _ j _ _ _ (M2.at 2 rfl); refine bodyPost_ret (v := .tuple #[.agg #[.int .u64 0, .int .u64 0, .int .u64 0, .int .u64 0], .int .i64 7]) (by simp [results, Try.results89, go_sem, hc]) rfl ⟨rfl, M2.below⟩)
  · simp only [cond_true] at ht
    subst ht
    rcases lo with _ | _
    · rcases z with _ | _
      · rcases sb with _ | _
        · have M := Mem.nil w0; have F := Mem.facts M; simp only [MemFacts] at F; (try simp only [ApartFacts] at F)
          go_enter Try.func89, Try.ntmps89
          go_wp2_with (first | (go_at_call 72; (with_reducible refine (O1 _).mono ?_); rintro e w1 ⟨rfl, hb⟩; replace M := Mem.call (w0 := w0) (by repeat' (first | (with_reducible exact M) | (with_reducible apply Mem.drew) | (with_reducible apply Mem.alloc))) hb; clear hb; (try clear F); (try simp only [World.size_alloc] at M); (try simp only [heap_drew] at M); have F := Mem.facts M; simp only [MemFacts] at F; (try simp only [ApartFacts] at F)) | (go_at_call 74; (with_reducible refine (S1 _).mono ?_); rintro e w1 ⟨rfl, hb⟩; replace M := Mem.call (w0 := w0) (by repeat' (first | (with_reducible exact M) | (with_reducible apply Mem.drew) | (with_reducible apply Mem.alloc))) hb; clear hb; (try clear F); (try simp only [World.size_alloc] at M); (try simp only [heap_drew] at M); have F := Mem.facts M; simp only [MemFacts] at F; (try simp only [ApartFacts] at F)) | (go_at_call 76; (with_reducible refine (S2 _).mono ?_); rintro e w1 ⟨rfl, hb⟩; replace M := Mem.call (w0 := w0) (by repeat' (first | (with_reducible exact M) | (with_reducible apply Mem.drew) | (with_reducible apply Mem.alloc))) hb; clear hb; (try clear F); (try simp only [World.size_alloc] at M); (try simp only [heap_drew] at M); have F := Mem.facts M; simp only [MemFacts] at F; (try simp only [ApartFacts] at F)))
          replace M := M.put4 0 rfl (.int .u64 (l0 t)) (.int .u64 (l1 t)) (.int .u64 (l2 t)) (.int .u64 (l3 t))
          (have hc := fun j => cell_of_row _ _ j _ _ _ ((M.put4 2 rfl (.int .u64 (l0 t)) (.int .u64 (l1 t)) (.int .u64 (l2 t)) (.int .u64 (l3 t))).at 2 rfl); refine bodyPost_ret (v := .tuple #[uV t, .int .i64 0]) (by simp [results, Try.results89, go_sem, hc]) rfl ⟨rfl, (M.put4 2 rfl _ _ _ _).below⟩)
        · have M := Mem.nil w0; have F := Mem.facts M; simp only [MemFacts] at F; (try simp only [ApartFacts] at F)
          go_enter Try.func89, Try.ntmps89
          go_wp2_with (first | (go_at_call 72; (with_reducible refine (O1 _).mono ?_); rintro e w1 ⟨rfl, hb⟩; replace M := Mem.call (w0 := w0) (by repeat' (first | (with_reducible exact M) | (with_reducible apply Mem.drew) | (with_reducible apply Mem.alloc))) hb; clear hb; (try clear F); (try simp only [World.size_alloc] at M); (try simp only [heap_drew] at M); have F := Mem.facts M; simp only [MemFacts] at F; (try simp only [ApartFacts] at F)) | (go_at_call 74; (with_reducible refine (S1 _).mono ?_); rintro e w1 ⟨rfl, hb⟩; replace M := Mem.call (w0 := w0) (by repeat' (first | (with_reducible exact M) | (with_reducible apply Mem.drew) | (with_reducible apply Mem.alloc))) hb; clear hb; (try clear F); (try simp only [World.size_alloc] at M); (try simp only [heap_drew] at M); have F := Mem.facts M; simp only [MemFacts] at F; (try simp only [ApartFacts] at F)) | (go_at_call 76; (with_reducible refine (S2 _).mono ?_); rintro e w1 ⟨rfl, hb⟩; replace M := Mem.call (w0 := w0) (by repeat' (first | (with_reducible exact M) | (with_reducible apply Mem.drew) | (with_reducible apply Mem.alloc))) hb; clear hb; (try clear F); (try simp only [World.size_alloc] at M); (try simp only [heap_drew] at M); have F := Mem.facts M; simp only [MemFacts] at F; (try simp only [ApartFacts] at F)))
          replace M := M.put4 0 rfl (.int .u64 (l0 t)) (.int .u64 (l1 t)) (.int .u64 (l2 t)) (.int .u64 (l3 t))
          simp only [Bool.false_or, Bool.true_or, Bool.or_true, cond_true]
          rw [← uV_zero]
          (have hc := fun j => cell_of_row _ _ j _ _ _ ((M.put4 2 rfl (.int .u64 (0)) (.int .u64 (0)) (.int .u64 (0)) (.int .u64 (0))).at 2 rfl); refine bodyPost_ret (v := .tuple #[.agg #[.int .u64 0, .int .u64 0, .int .u64 0, .int .u64 0], .int .i64 7]) (by simp [results, Try.results89, go_sem, hc]) rfl ⟨rfl, (M.put4 2 rfl _ _ _ _).below⟩)
      · have M := Mem.nil w0; have F := Mem.facts M; simp only [MemFacts] at F; (try simp only [ApartFacts] at F)
        go_enter Try.func89, Try.ntmps89
        go_wp2_with (first | (go_at_call 72; (with_reducible refine (O1 _).mono ?_); rintro e w1 ⟨rfl, hb⟩; replace M := Mem.call (w0 := w0) (by repeat' (first | (with_reducible exact M) | (with_reducible apply Mem.drew) | (with_reducible apply Mem.alloc))) hb; clear hb; (try clear F); (try simp only [World.size_alloc] at M); (try simp only [heap_drew] at M); have F := Mem.facts M; simp only [MemFacts] at F; (try simp only [ApartFacts] at F)) | (go_at_call 74; (with_reducible refine (S1 _).mono ?_); rintro e w1 ⟨rfl, hb⟩; replace M := Mem.call (w0 := w0) (by repeat' (first | (with_reducible exact M) | (with_reducible apply Mem.drew) | (with_reducible apply Mem.alloc))) hb; clear hb; (try clear F); (try simp only [World.size_alloc] at M); (try simp only [heap_drew] at M); have F := Mem.facts M; simp only [MemFacts] at F; (try simp only [ApartFacts] at F)) | (go_at_call 76; (with_reducible refine (S2 _).mono ?_); rintro e w1 ⟨rfl, hb⟩; replace M := Mem.call (w0 := w0) (by repeat' (first | (with_reducible exact M) | (with_reducible apply Mem.drew) | (with_reducible apply Mem.alloc))) hb; clear hb; (try clear F); (try simp only [World.size_alloc] at M); (try simp only [heap_drew] at M); have F := Mem.facts M; simp only [MemFacts] at F; (try simp only [ApartFacts] at F)))
        replace M := M.put4 0 rfl (.int .u64 (l0 t)) (.int .u64 (l1 t)) (.int .u64 (l2 t)) (.int .u64 (l3 t))
        simp only [Bool.false_or, Bool.true_or, Bool.or_true, cond_true]
        rw [← uV_zero]
        (have hc := fun j => cell_of_row _ _ j _ _ _ ((M.put4 2 rfl (.int .u64 (0)) (.int .u64 (0)) (.int .u64 (0)) (.int .u64 (0))).at 2 rfl); refine bodyPost_ret (v := .tuple #[.agg #[.int .u64 0, .int .u64 0, .int .u64 0, .int .u64 0], .int .i64 7]) (by simp [results, Try.results89, go_sem, hc]) rfl ⟨rfl, (M.put4 2 rfl _ _ _ _).below⟩)
    · have M := Mem.nil w0; have F := Mem.facts M; simp only [MemFacts] at F; (try simp only [ApartFacts] at F)
      go_enter Try.func89, Try.ntmps89
      go_wp2_with (first | (go_at_call 72; (with_reducible refine (O1 _).mono ?_); rintro e w1 ⟨rfl, hb⟩; replace M := Mem.call (w0 := w0) (by repeat' (first | (with_reducible exact M) | (with_reducible apply Mem.drew) | (with_reducible apply Mem.alloc))) hb; clear hb; (try clear F); (try simp only [World.size_alloc] at M); (try simp only [heap_drew] at M); have F := Mem.facts M; simp only [MemFacts] at F; (try simp only [ApartFacts] at F)) | (go_at_call 74; (with_reducible refine (S1 _).mono ?_); rintro e w1 ⟨rfl, hb⟩; replace M := Mem.call (w0 := w0) (by repeat' (first | (with_reducible exact M) | (with_reducible apply Mem.drew) | (with_reducible apply Mem.alloc))) hb; clear hb; (try clear F); (try simp only [World.size_alloc] at M); (try simp only [heap_drew] at M); have F := Mem.facts M; simp only [MemFacts] at F; (try simp only [ApartFacts] at F)) | (go_at_call 76; (with_reducible refine (S2 _).mono ?_); rintro e w1 ⟨rfl, hb⟩; replace M := Mem.call (w0 := w0) (by repeat' (first | (with_reducible exact M) | (with_reducible apply Mem.drew) | (with_reducible apply Mem.alloc))) hb; clear hb; (try clear F); (try simp only [World.size_alloc] at M); (try simp only [heap_drew] at M); have F := Mem.facts M; simp only [MemFacts] at F; (try simp only [ApartFacts] at F)))
      replace M := M.put4 0 rfl (.int .u64 (l0 t)) (.int .u64 (l1 t)) (.int .u64 (l2 t)) (.int .u64 (l3 t))
      simp only [Bool.false_or, Bool.true_or, Bool.or_true, cond_true]
      rw [← uV_zero]
      (have hc := fun j => cell_of_row _ _ j _ _ _ ((M.put4 2 rfl (.int .u64 (0)) (.int .u64 (0)) (.int .u64 (0)) (.int .u64 (0))).at 2 rfl); refine bodyPost_ret (v := .tuple #[.agg #[.int .u64 0, .int .u64 0, .int .u64 0, .int .u64 0], .int .i64 7]) (by simp [results, Try.results89, go_sem, hc]) rfl ⟨rfl, (M.put4 2 rfl _ _ _ _).below⟩)

theorem top_24 : 16777216 < top := Nat.lt_trans (by decide) top_big
theorem expand_c (b : Nat) (hb : b < 4294967296) : Gives 89 #[.int .u32 (b : Int)] (.tuple #[uV (expandN b).1, .int .i64 (expandN b).2]) := fun w => by
  have hm : manN b < 8388608 := by unfold manN; omega
  have hmt : manN b < top := by have := top_24; omega
  have hup : (b : Int) / 16777216 - 3 = upI b := by unfold upI; omega
  have hu : -3 ≤ upI b ∧ upI b ≤ 252 := by unfold upI; omega
  have h := expand_main b (manN b) (manN b * 2 ^ (upI b * 8).toNat % top) (manN b / 2 ^ (-upI b * 8).toNat) (rawT b) (upI b) _ (decide (upI b < 0)) (decide (top ≤ manN b * 2 ^ (upI b * 8).toNat)) (isZ (rawT b)) (decide (b / 8388608 % 2 = 1)) w
    (and_man b hb) hup rfl (and_sign b hb) (fun w => of_lit (manN b) (by omega) w) (shl_c _ hmt _) (shr_c _ hmt _) (by omega) rfl (by
      unfold rawT
      by_cases hn : upI b < 0
      · rw [if_pos hn, decide_eq_true hn]; rfl
      · rw [if_neg hn, decide_eq_false hn]; rfl) rfl hu.1 hu.2
  rw [isZ_eq (rawT_lt b top_24)] at h
  cases hbd : badT b with
  | true =>
    have h2 := hbd
    unfold badT at h2
    rw [h2] at h
    rw [expandN_bad hbd]
    exact h
  | false =>
    have h2 := hbd
    unfold badT at h2
    rw [h2] at h
    rw [expandN_of hbd]
    exact h

set_option maxRecDepth 100000 in
set_option maxHeartbeats 4000000 in
theorem shrink_main (t x y L sz n r : Nat) (s : Int) (lo sb : Bool) (w0 : World)
    (L1 : Gives 69 #[uV t] (.int .i64 (L : Int))) (hsz : ((L : Int) + 8 - 1) / 8 = (sz : Int))
    (S1 : Gives 74 #[uV t, .int .i64 ((3 - (sz : Int)) * 8)] (.tuple #[uV x, .bool lo])) (S2 : Gives 76 #[uV x, .int .i64 (((sz : Int) - 3) * 8)] (uV y))
    (hl : l0 y = (n : Int)) (hn : n < 16777216) (hs : bits .and .u32 (n : Int) 8388608 = s) (hsb : (s != 0) = sb) (hL : L ≤ 256) (hz : sz ≤ 32)
    (hr : (sb = false ∧ bits .or .u32 ((sz : Int) * 16777216) (n : Int) = (r : Int)) ∨ (sb = true ∧ bits .or .u32 (((sz : Int) + 1) * 16777216) ((n : Int) / 256) = (r : Int))) :
    Calls Try.prog 88 #[uV t] w0 fun e w' => e = .returned (.int .u32 (r : Int)) ∧ Below w0.heap.size w0 w' := by
  rcases hr with ⟨rfl, hr⟩ | ⟨rfl, hr⟩
  · have M := Mem.nil w0; have F := Mem.facts M; simp only [MemFacts] at F; (try simp only [ApartFacts] at F)
    go_enter Try.func88, Try.ntmps88
    go_wp2_with (first | (go_at_call 69; (with_reducible refine (L1 _).mono ?_); rintro e w1 ⟨rfl, hb⟩; replace M := Mem.call (w0 := w0) (by repeat' (first | (with_reducible exact M) | (with_reducible apply Mem.drew) | (with_reducible apply Mem.alloc))) hb; clear hb; (try clear F); (try simp only [World.size_alloc] at M); (try simp only [heap_drew] at M); have F := Mem.facts M; simp only [MemFacts] at F; (try simp only [ApartFacts] at F)) | (go_at_call 74; (with_reducible refine (S1 _).mono ?_); rintro e w1 ⟨rfl, hb⟩; replace M := Mem.call (w0 := w0) (by repeat' (first | (with_reducible exact M) | (with_reducible apply Mem.drew) | (with_reducible apply Mem.alloc))) hb; clear hb; (try clear F); (try simp only [World.size_alloc] at M); (try simp only [heap_drew] at M); have F := Mem.facts M; simp only [MemFacts] at F; (try simp only [ApartFacts] at F)) | (go_at_call 76; (with_reducible refine (S2 _).mono ?_); rintro e w1 ⟨rfl, hb⟩; replace M := Mem.call (w0 := w0) (by repeat' (first | (with_reducible exact M) | (with_reducible apply Mem.drew) | (with_reducible apply Mem.alloc))) hb; clear hb; (try clear F); (try simp only [World.size_alloc] at M); (try simp only [heap_drew] at M); have F := Mem.facts M; simp only [MemFacts] at F; (try simp only [ApartFacts] at F)))
    have M2 := M.put4 0 rfl (.int .u64 (n)) (.int .u64 (l1 y)) (.int .u64 (l2 y)) (.int .u64 (l3 y))
    refine bodyPost_ret (v := .int .u32 (r : Int)) (by simp [results, Try.results88, go_sem]) rfl ⟨rfl, M2.below⟩
  · have M := Mem.nil w0; have F := Mem.facts M; simp only [MemFacts] at F; (try simp only [ApartFacts] at F)
    go_enter Try.func88, Try.ntmps88
    go_wp2_with (first | (go_at_call 69; (with_reducible refine (L1 _).mono ?_); rintro e w1 ⟨rfl, hb⟩; replace M := Mem.call (w0 := w0) (by repeat' (first | (with_reducible exact M) | (with_reducible apply Mem.drew) | (with_reducible apply Mem.alloc))) hb; clear hb; (try clear F); (try simp only [World.size_alloc] at M); (try simp only [heap_drew] at M); have F := Mem.facts M; simp only [MemFacts] at F; (try simp only [ApartFacts] at F)) | (go_at_call 74; (with_reducible refine (S1 _).mono ?_); rintro e w1 ⟨rfl, hb⟩; replace M := Mem.call (w0 := w0) (by repeat' (first | (with_reducible exact M) | (with_reducible apply Mem.drew) | (with_reducible apply Mem.alloc))) hb; clear hb; (try clear F); (try simp only [World.size_alloc] at M); (try simp only [heap_drew] at M); have F := Mem.facts M; simp only [MemFacts] at F; (try simp only [ApartFacts] at F)) | (go_at_call 76; (with_reducible refine (S2 _).mono ?_); rintro e w1 ⟨rfl, hb⟩; replace M := Mem.call (w0 := w0) (by repeat' (first | (with_reducible exact M) | (with_reducible apply Mem.drew) | (with_reducible apply Mem.alloc))) hb; clear hb; (try clear F); (try simp only [World.size_alloc] at M); (try simp only [heap_drew] at M); have F := Mem.facts M; simp only [MemFacts] at F; (try simp only [ApartFacts] at F)))
    have M2 := M.put4 0 rfl (.int .u64 (n)) (.int .u64 (l1 y)) (.int .u64 (l2 y)) (.int .u64 (l3 y))
    refine bodyPost_ret (v := .int .u32 (r : Int)) (by simp [results, Try.results88, go_sem]) rfl ⟨rfl, M2.below⟩
theorem shrink_c (t : Nat) (ht : t < top) : Gives 88 #[uV t] (.int .u32 (shrinkN t : Int)) := fun w => by
  have hsz : szN t ≤ 32 := szN_le (by rw [← top_pow]; exact ht)
  have hn := nN_lt t
  have hx : t * 2 ^ ((3 - (szN t : Int)) * 8).toNat < top := by
    rcases Nat.le_total (szN t) 3 with h | h
    · have := nN_small h
      rw [show ((3 - (szN t : Int)) * 8).toNat = 8 * (3 - szN t) by omega, ← this]
      exact Nat.lt_trans hn top_24
    · rw [show ((3 - (szN t : Int)) * 8).toNat = 0 by omega, Nat.pow_zero, Nat.mul_one]
      exact ht
  have hor : ∀ a b : Nat, a ≤ 33 → b < 16777216 → bits .or .u32 ((a : Int) * 16777216) (b : Int) = ((a * 16777216 + b : Nat) : Int) := fun a b ha hb => by
    have := u32_or_nat (a * 16777216) b (by omega) (by omega)
    rw [Int.natCast_mul] at this
    rw [show ((16777216 : Nat) : Int) = 16777216 from rfl] at this
    rw [this]
    congr 1
    have e := Nat.two_pow_add_eq_or_of_lt (i := 24) (b := b) hb a
    rw [show (2 : Nat) ^ 24 = 16777216 from rfl, Nat.mul_comm 16777216 a] at e
    exact e.symm
  refine shrink_main t (t * 2 ^ ((3 - (szN t : Int)) * 8).toNat % top) (nN t) (lenN t) (szN t) (nN t) (shrinkN t) _ (decide (top ≤ t * 2 ^ ((3 - (szN t : Int)) * 8).toNat)) (decide (nN t / 8388608 % 2 = 1)) w
    (len_c t ht) (by unfold szN; omega) (shl_c t ht _) (fun w => ?_) ?_ hn rfl (and_sign _ (by omega)) (lenN_top ht) hsz ?_
  · have h := shr_c (t * 2 ^ ((3 - (szN t : Int)) * 8).toNat % top) (Nat.mod_lt _ (by omega)) (((szN t : Int) - 3) * 8) w
    rw [Nat.mod_eq_of_lt hx] at h ⊢
    exact h
  · rw [l0_li]
    unfold li
    rw [Nat.mul_zero, Nat.pow_zero, Nat.div_one, Nat.mod_eq_of_lt (by omega)]
  · unfold shrinkN
    by_cases hc : 8388608 ≤ nN t
    · rw [if_pos hc]
      refine .inr ⟨decide_eq_true (by omega), ?_⟩
      have := hor (szN t + 1) (nN t / 256) (by omega) (by omega)
      rw [← this]
      congr 1
    · rw [if_neg hc]
      exact .inl ⟨decide_eq_false (by omega), hor _ _ (by omega) hn⟩
end Go.Proofs.Ytkgjgdeaclefiaa
