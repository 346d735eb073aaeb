/-
  u256.digit, florinref01.digit.
-/
import Derived.Test.YtkgjgdeaclefiaaHexP
import Derived.Test.YtkgjgdeaclefiaaU256e
namespace Go.Proofs.Ytkgjgdeaclefiaa
open Go Go.Proofs Go.RowKit Go.Flo

theorem digit_y0 (c : Nat) (hc : 48 ≤ c ∧ c ≤ 57) (w : World) :
    Calls Try.prog 127 #[.int .i32 (c : Int)] w fun e w' => e = .returned (.tuple #[.int .u64 ((c - 48 : Nat) : Int), .bool true]) ∧ Below w.heap.size w w' := by
  have e : (c : Int) - 48 = ((c - 48 : Nat) : Int) := by omega
  have g48 : (48 : Int) ≤ c := by omega
  have g97 : decide ((97 : Int) ≤ c) = false := decide_eq_false (by omega)
  have g65 : decide ((65 : Int) ≤ c) = false := decide_eq_false (by omega)
  have l57 : (c : Int) ≤ 57 := by omega
  have l102 : (c : Int) ≤ 102 := by omega
  have l70 : (c : Int) ≤ 70 := by omega
  clear hc
  go_enter Try.func127, Try.ntmps127
  go_wp2
  (try rw [e])
  refine bodyPost_ret (v := .tuple #[.int .u64 ((c - 48 : Nat) : Int), .bool true]) (by simp [results, Try.results127, go_sem]) rfl ⟨rfl, ?_⟩
  repeat' (first | (with_reducible exact Below.refl _ _) | (with_reducible assumption) | (with_reducible refine Below.drew ?_) | (with_reducible refine Below.alloc ?_ ?_ _) | (with_reducible refine Below.setCell ?_ ?_ _) | (with_reducible refine Flo.below_step ?_ (by assumption)) | (simp; done) | (simp; omega))
theorem digit_y1 (c : Nat) (hc : 97 ≤ c ∧ c ≤ 102) (w : World) :
    Calls Try.prog 127 #[.int .i32 (c : Int)] w fun e w' => e = .returned (.tuple #[.int .u64 ((c - 87 : Nat) : Int), .bool true]) ∧ Below w.heap.size w w' := by
  have e : (c : Int) - 97 + 10 = ((c - 87 : Nat) : Int) := by omega
  have g48 : (48 : Int) ≤ c := by omega
  have g97 : (97 : Int) ≤ c := by omega
  have g65 : (65 : Int) ≤ c := by omega
  have l57 : decide ((c : Int) ≤ 57) = false := decide_eq_false (by omega)
  have l102 : (c : Int) ≤ 102 := by omega
  have l70 : decide ((c : Int) ≤ 70) = false := decide_eq_false (by omega)
  clear hc
  go_enter Try.func127, Try.ntmps127
  go_wp2
  (try rw [e])
  refine bodyPost_ret (v := .tuple #[.int .u64 ((c - 87 : Nat) : Int), .bool true]) (by simp [results, Try.results127, go_sem]) rfl ⟨rfl, ?_⟩
  repeat' (first | (with_reducible exact Below.refl _ _) | (with_reducible assumption) | (with_reducible refine Below.drew ?_) | (with_reducible refine Below.alloc ?_ ?_ _) | (with_reducible refine Below.setCell ?_ ?_ _) | (with_reducible refine Flo.below_step ?_ (by assumption)) | (simp; done) | (simp; omega))
theorem digit_y2 (c : Nat) (hc : 65 ≤ c ∧ c ≤ 70) (w : World) :
    Calls Try.prog 127 #[.int .i32 (c : Int)] w fun e w' => e = .returned (.tuple #[.int .u64 ((c - 55 : Nat) : Int), .bool true]) ∧ Below w.heap.size w w' := by
  have e : (c : Int) - 65 + 10 = ((c - 55 : Nat) : Int) := by omega
  have g48 : (48 : Int) ≤ c := by omega
  have g97 : decide ((97 : Int) ≤ c) = false := decide_eq_false (by omega)
  have g65 : (65 : Int) ≤ c := by omega
  have l57 : decide ((c : Int) ≤ 57) = false := decide_eq_false (by omega)
  have l102 : (c : Int) ≤ 102 := by omega
  have l70 : (c : Int) ≤ 70 := by omega
  clear hc
  go_enter Try.func127, Try.ntmps127
  go_wp2
  (try rw [e])
  refine bodyPost_ret (v := .tuple #[.int .u64 ((c - 55 : Nat) : Int), .bool true]) (by simp [results, Try.results127, go_sem]) rfl ⟨rfl, ?_⟩
  repeat' (first | (with_reducible exact Below.refl _ _) | (with_reducible assumption) | (with_reducible refine Below.drew ?_) | (with_reducible refine Below.alloc ?_ ?_ _) | (with_reducible refine Below.setCell ?_ ?_ _) | (with_reducible refine Flo.below_step ?_ (by assumption)) | (simp; done) | (simp; omega))
theorem digit_n0 (c : Nat) (hc : 0 ≤ c ∧ c ≤ 47) (w : World) :
    Calls Try.prog 127 #[.int .i32 (c : Int)] w fun e w' => e = .returned (.tuple #[.int .u64 0, .bool false]) ∧ Below w.heap.size w w' := by
  have g48 : decide ((48 : Int) ≤ c) = false := decide_eq_false (by omega)
  have g97 : decide ((97 : Int) ≤ c) = false := decide_eq_false (by omega)
  have g65 : decide ((65 : Int) ≤ c) = false := decide_eq_false (by omega)
  have l57 : (c : Int) ≤ 57 := by omega
  have l102 : (c : Int) ≤ 102 := by omega
  have l70 : (c : Int) ≤ 70 := by omega
  clear hc
  go_enter Try.func127, Try.ntmps127
  go_wp2
  refine bodyPost_ret (v := .tuple #[.int .u64 0, .bool false]) (by simp [results, Try.results127, go_sem]) rfl ⟨rfl, ?_⟩
  repeat' (first | (with_reducible exact Below.refl _ _) | (with_reducible assumption) | (with_reducible refine Below.drew ?_) | (with_reducible refine Below.alloc ?_ ?_ _) | (with_reducible refine Below.setCell ?_ ?_ _) | (with_reducible refine Flo.below_step ?_ (by assumption)) | (simp; done) | (simp; omega))
theorem digit_n1 (c : Nat) (hc : 58 ≤ c ∧ c ≤ 64) (w : World) :
    Calls Try.prog 127 #[.int .i32 (c : Int)] w fun e w' => e = .returned (.tuple #[.int .u64 0, .bool false]) ∧ Below w.heap.size w w' := by
  have g48 : (48 : Int) ≤ c := by omega
  have g97 : decide ((97 : Int) ≤ c) = false := decide_eq_false (by omega)
  have g65 : decide ((65 : Int) ≤ c) = false := decide_eq_false (by omega)
  have l57 : decide ((c : Int) ≤ 57) = false := decide_eq_false (by omega)
  have l102 : (c : Int) ≤ 102 := by omega
  have l70 : (c : Int) ≤ 70 := by omega
  clear hc
  go_enter Try.func127, Try.ntmps127
  go_wp2
  refine bodyPost_ret (v := .tuple #[.int .u64 0, .bool false]) (by simp [results, Try.results127, go_sem]) rfl ⟨rfl, ?_⟩
  repeat' (first | (with_reducible exact Below.refl _ _) | (with_reducible assumption) | (with_reducible refine Below.drew ?_) | (with_reducible refine Below.alloc ?_ ?_ _) | (with_reducible refine Below.setCell ?_ ?_ _) | (with_reducible refine Flo.below_step ?_ (by assumption)) | (simp; done) | (simp; omega))
theorem digit_n2 (c : Nat) (hc : 71 ≤ c ∧ c ≤ 96) (w : World) :
    Calls Try.prog 127 #[.int .i32 (c : Int)] w fun e w' => e = .returned (.tuple #[.int .u64 0, .bool false]) ∧ Below w.heap.size w w' := by
  have g48 : (48 : Int) ≤ c := by omega
  have g97 : decide ((97 : Int) ≤ c) = false := decide_eq_false (by omega)
  have g65 : (65 : Int) ≤ c := by omega
  have l57 : decide ((c : Int) ≤ 57) = false := decide_eq_false (by omega)
  have l102 : (c : Int) ≤ 102 := by omega
  have l70 : decide ((c : Int) ≤ 70) = false := decide_eq_false (by omega)
  clear hc
  go_enter Try.func127, Try.ntmps127
  go_wp2
  refine bodyPost_ret (v := .tuple #[.int .u64 0, .bool false]) (by simp [results, Try.results127, go_sem]) rfl ⟨rfl, ?_⟩
  repeat' (first | (with_reducible exact Below.refl _ _) | (with_reducible assumption) | (with_reducible refine Below.drew ?_) | (with_reducible refine Below.alloc ?_ ?_ _) | (with_reducible refine Below.setCell ?_ ?_ _) | (with_reducible refine Flo.below_step ?_ (by assumption)) | (simp; done) | (simp; omega))
theorem digit_n3 (c : Nat) (hc : 103 ≤ c) (w : World) :
    Calls Try.prog 127 #[.int .i32 (c : Int)] w fun e w' => e = .returned (.tuple #[.int .u64 0, .bool false]) ∧ Below w.heap.size w w' := by
  have g48 : (48 : Int) ≤ c := by omega
  have g97 : (97 : Int) ≤ c := by omega
  have g65 : (65 : Int) ≤ c := by omega
  have l57 : decide ((c : Int) ≤ 57) = false := decide_eq_false (by omega)
  have l102 : decide ((c : Int) ≤ 102) = false := decide_eq_false (by omega)
  have l70 : decide ((c : Int) ≤ 70) = false := decide_eq_false (by omega)
  clear hc
  go_enter Try.func127, Try.ntmps127
  go_wp2
  refine bodyPost_ret (v := .tuple #[.int .u64 0, .bool false]) (by simp [results, Try.results127, go_sem]) rfl ⟨rfl, ?_⟩
  repeat' (first | (with_reducible exact Below.refl _ _) | (with_reducible assumption) | (with_reducible refine Below.drew ?_) | (with_reducible refine Below.alloc ?_ ?_ _) | (with_reducible refine Below.setCell ?_ ?_ _) | (with_reducible refine Flo.below_step ?_ (by assumption)) | (simp; done) | (simp; omega))
theorem digit_some (c d : Nat) (hd : hexd c = some d) (w : World) :
    Calls Try.prog 127 #[.int .i32 (c : Int)] w fun e w' => e = .returned (.tuple #[.int .u64 (d : Int), .bool true]) ∧ Below w.heap.size w w' := by
  unfold hexd at hd
  split at hd
  · cases hd; exact digit_y0 c ‹_› w
  · split at hd
    · cases hd; exact digit_y1 c ‹_› w
    · split at hd
      · cases hd; exact digit_y2 c ‹_› w
      · cases hd
theorem hexd_none {c : Nat} (hd : hexd c = none) : (0 ≤ c ∧ c ≤ 47) ∨ (58 ≤ c ∧ c ≤ 64) ∨ (71 ≤ c ∧ c ≤ 96) ∨ 103 ≤ c := by
  unfold hexd at hd
  split at hd
  · cases hd
  · split at hd
    · cases hd
    · split at hd
      · cases hd
      · omega
theorem digit_none (c : Nat) (hd : hexd c = none) (w : World) :
    Calls Try.prog 127 #[.int .i32 (c : Int)] w fun e w' => e = .returned (.tuple #[.int .u64 0, .bool false]) ∧ Below w.heap.size w w' := by
  rcases hexd_none hd with h | h | h | h
  · exact digit_n0 c h w
  · exact digit_n1 c h w
  · exact digit_n2 c h w
  · exact digit_n3 c h w

theorem rdigit_y0 (c : Nat) (hc : 48 ≤ c ∧ c ≤ 57) (w : World) :
    Calls Try.prog 128 #[.int .u8 (c : Int)] w fun e w' => e = .returned (.int .i64 ((c - 48 : Nat) : Int)) ∧ Below w.heap.size w w' := by
  have e : (c : Int) - 48 = ((c - 48 : Nat) : Int) := by omega
  have g48 : (48 : Int) ≤ c := by omega
  have g97 : decide ((97 : Int) ≤ c) = false := decide_eq_false (by omega)
  have g65 : decide ((65 : Int) ≤ c) = false := decide_eq_false (by omega)
  have l57 : (c : Int) ≤ 57 := by omega
  have l102 : (c : Int) ≤ 102 := by omega
  have l70 : (c : Int) ≤ 70 := by omega
  clear hc
  go_enter Try.func128, Try.ntmps128
  go_wp2
  (try rw [e])
  refine bodyPost_ret (v := .int .i64 ((c - 48 : Nat) : Int)) (by simp [results, Try.results128, go_sem]) rfl ⟨rfl, ?_⟩
  repeat' (first | (with_reducible exact Below.refl _ _) | (with_reducible assumption) | (with_reducible refine Below.drew ?_) | (with_reducible refine Below.alloc ?_ ?_ _) | (with_reducible refine Below.setCell ?_ ?_ _) | (with_reducible refine Flo.below_step ?_ (by assumption)) | (simp; done) | (simp; omega))
theorem rdigit_y1 (c : Nat) (hc : 97 ≤ c ∧ c ≤ 102) (w : World) :
    Calls Try.prog 128 #[.int .u8 (c : Int)] w fun e w' => e = .returned (.int .i64 ((c - 87 : Nat) : Int)) ∧ Below w.heap.size w w' := by
  have e : (c : Int) - 97 + 10 = ((c - 87 : Nat) : Int) := by omega
  have g48 : (48 : Int) ≤ c := by omega
  have g97 : (97 : Int) ≤ c := by omega
  have g65 : (65 : Int) ≤ c := by omega
  have l57 : decide ((c : Int) ≤ 57) = false := decide_eq_false (by omega)
  have l102 : (c : Int) ≤ 102 := by omega
  have l70 : decide ((c : Int) ≤ 70) = false := decide_eq_false (by omega)
  clear hc
  go_enter Try.func128, Try.ntmps128
  go_wp2
  (try rw [e])
  refine bodyPost_ret (v := .int .i64 ((c - 87 : Nat) : Int)) (by simp [results, Try.results128, go_sem]) rfl ⟨rfl, ?_⟩
  repeat' (first | (with_reducible exact Below.refl _ _) | (with_reducible assumption) | (with_reducible refine Below.drew ?_) | (with_reducible refine Below.alloc ?_ ?_ _) | (with_reducible refine Below.setCell ?_ ?_ _) | (with_reducible refine Flo.below_step ?_ (by assumption)) | (simp; done) | (simp; omega))
theorem rdigit_y2 (c : Nat) (hc : 65 ≤ c ∧ c ≤ 70) (w : World) :
    Calls Try.prog 128 #[.int .u8 (c : Int)] w fun e w' => e = .returned (.int .i64 ((c - 55 : Nat) : Int)) ∧ Below w.heap.size w w' := by
  have e : (c : Int) - 65 + 10 = ((c - 55 : Nat) : Int) := by omega
  have g48 : (48 : Int) ≤ c := by omega
  have g97 : decide ((97 : Int) ≤ c) = false := decide_eq_false (by omega)
  have g65 : (65 : Int) ≤ c := by omega
  have l57 : decide ((c : Int) ≤ 57) = false := decide_eq_false (by omega)
  have l102 : (c : Int) ≤ 102 := by omega
  have l70 : (c : Int) ≤ 70 := by omega
  clear hc
  go_enter Try.func128, Try.ntmps128
  go_wp2
  (try rw [e])
  refine bodyPost_ret (v := .int .i64 ((c - 55 : Nat) : Int)) (by simp [results, Try.results128, go_sem]) rfl ⟨rfl, ?_⟩
  repeat' (first | (with_reducible exact Below.refl _ _) | (with_reducible assumption) | (with_reducible refine Below.drew ?_) | (with_reducible refine Below.alloc ?_ ?_ _) | (with_reducible refine Below.setCell ?_ ?_ _) | (with_reducible refine Flo.below_step ?_ (by assumption)) | (simp; done) | (simp; omega))
theorem rdigit_n0 (c : Nat) (hc : 0 ≤ c ∧ c ≤ 47) (w : World) :
    Calls Try.prog 128 #[.int .u8 (c : Int)] w fun e w' => e = .returned (.int .i64 (-1)) ∧ Below w.heap.size w w' := by
  have g48 : decide ((48 : Int) ≤ c) = false := decide_eq_false (by omega)
  have g97 : decide ((97 : Int) ≤ c) = false := decide_eq_false (by omega)
  have g65 : decide ((65 : Int) ≤ c) = false := decide_eq_false (by omega)
  have l57 : (c : Int) ≤ 57 := by omega
  have l102 : (c : Int) ≤ 102 := by omega
  have l70 : (c : Int) ≤ 70 := by omega
  clear hc
  go_enter Try.func128, Try.ntmps128
  go_wp2
  refine bodyPost_ret (v := .int .i64 (-1)) (by simp [results, Try.results128, go_sem]) rfl ⟨rfl, ?_⟩
  repeat' (first | (with_reducible exact Below.refl _ _) | (with_reducible assumption) | (with_reducible refine Below.drew ?_) | (with_reducible refine Below.alloc ?_ ?_ _) | (with_reducible refine Below.setCell ?_ ?_ _) | (with_reducible refine Flo.below_step ?_ (by assumption)) | (simp; done) | (simp; omega))
theorem rdigit_n1 (c : Nat) (hc : 58 ≤ c ∧ c ≤ 64) (w : World) :
    Calls Try.prog 128 #[.int .u8 (c : Int)] w fun e w' => e = .returned (.int .i64 (-1)) ∧ Below w.heap.size w w' := by
  have g48 : (48 : Int) ≤ c := by omega
  have g97 : decide ((97 : Int) ≤ c) = false := decide_eq_false (by omega)
  have g65 : decide ((65 : Int) ≤ c) = false := decide_eq_false (by omega)
  have l57 : decide ((c : Int) ≤ 57) = false := decide_eq_false (by omega)
  have l102 : (c : Int) ≤ 102 := by omega
  have l70 : (c : Int) ≤ 70 := by omega
  clear hc
  go_enter Try.func128, Try.ntmps128
  go_wp2
  refine bodyPost_ret (v := .int .i64 (-1)) (by simp [results, Try.results128, go_sem]) rfl ⟨rfl, ?_⟩
  repeat' (first | (with_reducible exact Below.refl _ _) | (with_reducible assumption) | (with_reducible refine Below.drew ?_) | (with_reducible refine Below.alloc ?_ ?_ _) | (with_reducible refine Below.setCell ?_ ?_ _) | (with_reducible refine Flo.below_step ?_ (by assumption)) | (simp; done) | (simp; omega))
theorem rdigit_n2 (c : Nat) (hc : 71 ≤ c ∧ c ≤ 96) (w : World) :
    Calls Try.prog 128 #[.int .u8 (c : Int)] w fun e w' => e = .returned (.int .i64 (-1)) ∧ Below w.heap.size w w' := by
  have g48 : (48 : Int) ≤ c := by omega
  have g97 : decide ((97 : Int) ≤ c) = false := decide_eq_false (by omega)
  have g65 : (65 : Int) ≤ c := by omega
  have l57 : decide ((c : Int) ≤ 57) = false := decide_eq_false (by omega)
  have l102 : (c : Int) ≤ 102 := by omega
  have l70 : decide ((c : Int) ≤ 70) = false := decide_eq_false (by omega)
  clear hc
  go_enter Try.func128, Try.ntmps128
  go_wp2
  refine bodyPost_ret (v := .int .i64 (-1)) (by simp [results, Try.results128, go_sem]) rfl ⟨rfl, ?_⟩
  repeat' (first | (with_reducible exact Below.refl _ _) | (with_reducible assumption) | (with_reducible refine Below.drew ?_) | (with_reducible refine Below.alloc ?_ ?_ _) | (with_reducible refine Below.setCell ?_ ?_ _) | (with_reducible refine Flo.below_step ?_ (by assumption)) | (simp; done) | (simp; omega))
theorem rdigit_n3 (c : Nat) (hc : 103 ≤ c) (w : World) :
    Calls Try.prog 128 #[.int .u8 (c : Int)] w fun e w' => e = .returned (.int .i64 (-1)) ∧ Below w.heap.size w w' := by
  have g48 : (48 : Int) ≤ c := by omega
  have g97 : (97 : Int) ≤ c := by omega
  have g65 : (65 : Int) ≤ c := by omega
  have l57 : decide ((c : Int) ≤ 57) = false := decide_eq_false (by omega)
  have l102 : decide ((c : Int) ≤ 102) = false := decide_eq_false (by omega)
  have l70 : decide ((c : Int) ≤ 70) = false := decide_eq_false (by omega)
  clear hc
  go_enter Try.func128, Try.ntmps128
  go_wp2
  refine bodyPost_ret (v := .int .i64 (-1)) (by simp [results, Try.results128, go_sem]) rfl ⟨rfl, ?_⟩
  repeat' (first | (with_reducible exact Below.refl _ _) | (with_reducible assumption) | (with_reducible refine Below.drew ?_) | (with_reducible refine Below.alloc ?_ ?_ _) | (with_reducible refine Below.setCell ?_ ?_ _) | (with_reducible refine Flo.below_step ?_ (by assumption)) | (simp; done) | (simp; omega))
theorem rdigit_some (c d : Nat) (hd : hexd c = some d) (w : World) :
    Calls Try.prog 128 #[.int .u8 (c : Int)] w fun e w' => e = .returned (.int .i64 (d : Int)) ∧ Below w.heap.size w w' := by
  unfold hexd at hd
  split at hd
  · cases hd; exact rdigit_y0 c ‹_› w
  · split at hd
    · cases hd; exact rdigit_y1 c ‹_› w
    · split at hd
      · cases hd; exact rdigit_y2 c ‹_› w
      · cases hd
theorem rdigit_none (c : Nat) (hd : hexd c = none) (w : World) :
    Calls Try.prog 128 #[.int .u8 (c : Int)] w fun e w' => e = .returned (.int .i64 (-1)) ∧ Below w.heap.size w w' := by
  rcases hexd_none hd with h | h | h | h
  · exact rdigit_n0 c h w
  · exact rdigit_n1 c h w
  · exact rdigit_n2 c h w
  · exact rdigit_n3 c h w

end Go.Proofs.Ytkgjgdeaclefiaa
