/-
  florinlaw13.RetargetClamp: for any numbers the law answers true.
-/
import Derived.Test.YtkgjgdeaclefiaaRt5
import Derived.Test.YtkgjgdeaclefiaaRt5b
import Derived.Test.YtkgjgdeaclefiaaRt5c
namespace Go.Proofs.Ytkgjgdeaclefiaa
open Go Go.Proofs Go.RowKit Go.Flo

theorem i64w {x : Int} (h : (Lit.int .i64 x).wf = true) : -9223372036854775808 ≤ x ∧ x ≤ 9223372036854775807 := by
  simp [Lit.wf, IntKind.min, IntKind.max, IntKind.signed, IntKind.bits] at h
  omega
theorem clamp_again (a s : Int) : clampI (clampI a s) s = clampI a s := by
  obtain ⟨h1, h2, _⟩ := clamp_bounds a s
  generalize clampI a s = x at *
  unfold clampI
  generalize spanI s = S at *
  omega
theorem clamp_mono (a b s : Int) (h : a ≤ b) : clampI a s ≤ clampI b s := by
  unfold clampI
  generalize spanI s = S at *
  omega
theorem clamp_in (a s : Int) (h1 : spanI s / 4 ≤ a) (h2 : a ≤ 4 * spanI s) : clampI a s = a := by
  unfold clampI
  generalize spanI s = S at *
  omega
theorem first_facts (h n : Int) : 0 ≤ firstI h n ∧ firstI h n ≤ max 0 h ∧ (1 ≤ n → n ≤ 1048576 → n ≤ h → firstI h n = h - n) := by
  unfold firstI intvI
  refine ⟨by omega, by omega, fun h1 h2 h3 => by omega⟩
theorem rclamp_walk (w0 : World) (a b s h n : Int) (ha : (Lit.int .i64 a).wf = true) (hb : (Lit.int .i64 b).wf = true) (hs : (Lit.int .i64 s).wf = true) (hh : (Lit.int .i64 h).wf = true) (hn : (Lit.int .i64 n).wf = true) :
    Calls Try.prog 24 #[.int .i64 a, .int .i64 b, .int .i64 s, .int .i64 h, .int .i64 n] w0 fun e w' => e = .returned (.bool true) ∧ Below w0.heap.size w0 w' := by
  have ha := i64w ha
  have hb := i64w hb
  have hs := i64w hs
  have hh := i64w hh
  have hn := i64w hn
  obtain ⟨k1, k2, k3, k4, k5⟩ := clamp_bounds a s
  have C1 := clamp_c a s ha.1 ha.2 hs.1 hs.2
  have C2 := clamp_c b s hb.1 hb.2 hs.1 hs.2
  have C3 := clamp_c (clampI a s) s (by omega) (by omega) hs.1 hs.2
  rw [clamp_again] at C3
  have F1 := first_c h n hh.1 hh.2 hn.1 hn.2
  obtain ⟨f1, f2, f3⟩ := first_facts h n
  have g3 : b < a ∨ (a ≤ b ∧ clampI a s ≤ clampI b s) := by
    rcases Int.lt_or_le b a with h | h
    · exact .inl h
    · exact .inr ⟨h, clamp_mono a b s h⟩
  have g7 : n < 1 ∨ (1 ≤ n ∧ 1048576 < n) ∨ (1 ≤ n ∧ n ≤ 1048576 ∧ h < n) ∨ (1 ≤ n ∧ n ≤ 1048576 ∧ n ≤ h ∧ firstI h n = h - n) := by
    by_cases q1 : n < 1
    · exact .inl q1
    by_cases q2 : 1048576 < n
    · exact .inr (.inl ⟨by omega, q2⟩)
    by_cases q3 : h < n
    · exact .inr (.inr (.inl ⟨by omega, by omega, q3⟩))
    · exact .inr (.inr (.inr ⟨by omega, by omega, by omega, f3 (by omega) (by omega) (by omega)⟩))
  by_cases q1 : a < spanI s / 4
  · exact rclamp_1 a b s h n _ _ _ (spanI s) w0 rfl k4 k5 C1 C2 C3 F1 k1 (by omega) g3 q1 f1 f2 g7 hh.2
  by_cases q2 : 4 * spanI s < a
  · exact rclamp_2 a b s h n _ _ _ (spanI s) w0 rfl k4 k5 C1 C2 C3 F1 k1 (by omega) g3 (by omega) q2 f1 f2 g7 hh.2
  · exact rclamp_3 a b s h n _ _ _ (spanI s) w0 rfl k4 k5 C1 C2 C3 F1 k1 (by omega) g3 (by omega) (by omega) (clamp_in a s (by omega) (by omega)) f1 f2 g7 hh.2

open Go.ChangeShapes Go.WideShapes Go.ChangeAt
theorem retargetClamp_joined : joinedFacts Try.pinned.checked.prog 24 Try.f24 Rows.retargetClampSpec Rows.retargetClampRow = true := and_mk (and_mk (and_mk (and_mk (and_mk (and_mk (and_mk (and_mk (and_mk (and_mk (and_mk (and_mk (and_mk (and_mk (and_mk (and_mk (and_mk (and_mk (and_mk (and_mk (and_mk (and_mk (and_mk (and_mk (and_mk (and_mk (and_mk (and_mk (and_mk (and_mk (and_mk (by as_aux_lemma => kernel_rfl) laidOut) pf_maps) (by as_aux_lemma => kernel_rfl)) (by as_aux_lemma => kernel_rfl)) (by as_aux_lemma => kernel_rfl)) pf_stops) (by as_aux_lemma => kernel_rfl)) pf_knobs) (by as_aux_lemma => kernel_rfl)) (by as_aux_lemma => kernel_rfl)) (by as_aux_lemma => kernel_rfl)) (by as_aux_lemma => kernel_rfl)) (by as_aux_lemma => kernel_rfl)) (by as_aux_lemma => kernel_rfl)) (by as_aux_lemma => kernel_rfl)) (by as_aux_lemma => kernel_rfl)) (by as_aux_lemma => kernel_rfl)) (by as_aux_lemma => kernel_rfl)) (by as_aux_lemma => kernel_rfl)) (by as_aux_lemma => kernel_rfl)) (by as_aux_lemma => kernel_rfl)) pf_plain) (by as_aux_lemma => kernel_rfl)) pf_heard) pf_enter) pf_lifts) pf_make) (by as_aux_lemma => kernel_rfl)) (by as_aux_lemma => kernel_rfl)) (by as_aux_lemma => kernel_rfl)) (by as_aux_lemma => kernel_rfl)
set_option maxRecDepth 100000 in
theorem retargetClamp_lifted (os : Os) (started : os.Started) (H : Type) (enc : TypeId × Value → H) :
    ReturnsInHanded {} Try.checked os 24 .any (Rows.retargetClampSpec.pre6 enc Try.prog Try.f24 Rows.retargetClampRow.domain false) (Rows.retargetClampSpec.post enc Try.prog Try.f24 false true false false) := by
  refine returnsInHanded_of_change (C := Try.checked) own started (by kernel_rfl) Try.func24
    (ChangeSpec.witness6 (enc := enc) (C := Try.checked) false ⟨#[], #[.int .i64 0, .int .i64 0, .int .i64 0, .int .i64 0, .int .i64 0], []⟩ 8 (by kernel_rfl) (by kernel_rfl) (by kernel_rfl) (by kernel_rfl)) ?_
  intro W base args ds gs before hval0 hW hcnd _
  have hval : ∀ (j : Nat) t v, Try.f24.params[j]? = some t → args[j]? = some v → Value.okWide Try.prog W .any base t v := hval0
  have hW' := hW
  obtain ⟨p, q, hA0, hV, rfl, hfz, hnd⟩ := hW
  have hA : DataW.TrodAll enc Try.prog W 0 (fun _ => true) true Try.f24.params.toList args.toList ds p := hA0
  rw [Try.params24] at hA hval
  obtain ⟨v0, vs0, d0, ds0, p0, q0, hargs, rfl, rfl, h0, r0⟩ := trodAll_cons hA
  obtain ⟨v1, vs1, d1, ds1, p1, q1, rfl, rfl, rfl, h1, r1⟩ := trodAll_cons r0
  obtain ⟨v2, vs2, d2, ds2, p2, q2, rfl, rfl, rfl, h2, r2⟩ := trodAll_cons r1
  obtain ⟨v3, vs3, d3, ds3, p3, q3, rfl, rfl, rfl, h3, r3⟩ := trodAll_cons r2
  obtain ⟨v4, vs4, d4, ds4, p4, q4, rfl, rfl, rfl, h4, r4⟩ := trodAll_cons r3
  obtain ⟨rfl, rfl, rfl⟩ := trodAll_nil r4
  obtain rfl : args = #[v0, v1, v2, v3, v4] := by cases args; simp_all
  obtain ⟨rfl, rfl⟩ := trodVars_none hV
  have k0 := h0
  have lt0 : ∀ x ∈ p0, x.block < W.heap.size := by obtain ⟨m, hm⟩ := k0; exact DataW.trod_lt m _ _ _ hm
  have k1 := h1
  have lt1 : ∀ x ∈ p1, x.block < W.heap.size := by obtain ⟨m, hm⟩ := k1; exact DataW.trod_lt m _ _ _ hm
  have k2 := h2
  have lt2 : ∀ x ∈ p2, x.block < W.heap.size := by obtain ⟨m, hm⟩ := k2; exact DataW.trod_lt m _ _ _ hm
  have k3 := h3
  have lt3 : ∀ x ∈ p3, x.block < W.heap.size := by obtain ⟨m, hm⟩ := k3; exact DataW.trod_lt m _ _ _ hm
  have k4 := h4
  have lt4 : ∀ x ∈ p4, x.block < W.heap.size := by obtain ⟨m, hm⟩ := k4; exact DataW.trod_lt m _ _ _ hm
  obtain ⟨a0, rfl, rfl, rfl, w0⟩ := open_int Try.underlying3 (hval 0 3 v0 rfl rfl) h0
  obtain ⟨a1, rfl, rfl, rfl, w1⟩ := open_int Try.underlying3 (hval 1 3 v1 rfl rfl) h1
  obtain ⟨a2, rfl, rfl, rfl, w2⟩ := open_int Try.underlying3 (hval 2 3 v2 rfl rfl) h2
  obtain ⟨a3, rfl, rfl, rfl, w3⟩ := open_int Try.underlying3 (hval 3 3 v3 rfl rfl) h3
  obtain ⟨a4, rfl, rfl, rfl, w4⟩ := open_int Try.underlying3 (hval 4 3 v4 rfl rfl) h4
  clear hA0 hval0
  refine (rclamp_walk W a0 a1 a2 a3 a4 w0 w1 w2 w3 w4).mono fun e W' ⟨he, bel⟩ => ?_
  subst he
  exact ⟨_, rfl, _, _, _, [], _, [], hW', trodAll_mk1 (shut_bool Try.underlying4 _), (trodAll_cons_mk (Below.trod laidOut (by kernel_rfl) (of_decide_eq_true (by kernel_rfl)) k0 bel lt0) (trodAll_cons_mk (Below.trod laidOut (by kernel_rfl) (of_decide_eq_true (by kernel_rfl)) k1 bel lt1) (trodAll_cons_mk (Below.trod laidOut (by kernel_rfl) (of_decide_eq_true (by kernel_rfl)) k2 bel lt2) (trodAll_cons_mk (Below.trod laidOut (by kernel_rfl) (of_decide_eq_true (by kernel_rfl)) k3 bel lt3) (trodAll_cons_mk (Below.trod laidOut (by kernel_rfl) (of_decide_eq_true (by kernel_rfl)) k4 bel lt4) trodAll_mk0))))), rfl, bel.frame _, fun h => by cases h⟩
theorem retargetClamp_over : Rows.retargetClampRow.holds Try.pinned (OpenSpec.ofChange Rows.retargetClampSpec) :=
  OpenClaim.holds_of_wide 24 Try.f24 rfl rfl rfl rfl rfl rfl rfl ⟨rfl, rfl, rfl, rfl, rfl⟩ rfl rfl rfl rfl rfl (by kernel_rfl) Try.func24 retargetClamp_joined
    (of_decide_eq_true (by kernel_rfl)) (by unfold Func.isWrapper; first | (rw [if_pos (by decide +kernel)]; kernel_rfl) | (rw [if_neg (by decide +kernel)]; exact ⟨rfl, rfl⟩))
    (fun os started H enc _ => retargetClamp_lifted os started H enc)
/-- The statement. -/
theorem retargetClamp_proved : Rows.RetargetClampSaid := retargetClamp_over
#print axioms retargetClamp_proved
end Go.Proofs.Ytkgjgdeaclefiaa
