/-
  florinlaw05.TargetMeets: for any hash and any bits the law answers true.
-/
import Derived.Test.YtkgjgdeaclefiaaTgtMeets2
import Derived.Test.YtkgjgdeaclefiaaLft
namespace Go.Proofs.Ytkgjgdeaclefiaa
open Go Go.Proofs Go.RowKit Go.Flo

theorem cmp_le (m n : Nat) : decide (cmpI m n ≤ 0) = decide (m ≤ n) := by
  unfold cmpI
  by_cases h : m < n
  · rw [if_pos h, decide_eq_true (show m ≤ n by omega)]; rfl
  · rw [if_neg h]
    by_cases h2 : n < m
    · rw [if_pos h2, decide_eq_false (show ¬ m ≤ n by omega)]; rfl
    · rw [if_neg h2, decide_eq_true (show m ≤ n by omega)]; rfl
theorem meetsN_bad {k : List UInt8} {a c : Nat} (h : badT a = true ∨ badT c = true ∨ (expandN c).1 < (expandN a).1) : meetsN k a c = 7 := by
  unfold meetsN
  refine if_pos ?_
  unfold okN
  rcases h with h | h | h
  · left; rw [h]; rfl
  · left; rw [h]; cases badT a <;> rfl
  · exact .inr h
theorem meetsN_ok {k : List UInt8} {a c : Nat} (ha : badT a = false) (hc : badT c = false) (h : ¬ rawT c < rawT a) : meetsN k a c = if rawT a < beN k.reverse then 6 else 0 := by
  unfold meetsN okN
  rw [ha, hc, expandN_of ha, expandN_of hc]
  rw [if_neg]
  rintro (h1 | h1)
  · cases h1
  · exact h h1
theorem tmeets_walk (w0 : World) (k : List UInt8) (i j m : Int) (hk : k.length = 32) (hi : (Lit.int .u32 i).wf = true) (hj : (Lit.int .u32 j).wf = true) (hm : (Lit.int .u32 m).wf = true) :
    Calls Try.prog 21 #[.agg (bA k), .int .u32 i, .int .u32 j, .int .u32 m] w0 fun e w' => e = .returned (.bool true) ∧ Below w0.heap.size w0 w' := by
  have hT := top_24
  have u32w {x : Int} (h : (Lit.int .u32 x).wf = true) : 0 ≤ x ∧ x < 4294967296 := by
    simp [Lit.wf, IntKind.min, IntKind.max, IntKind.signed, IntKind.bits] at h
    omega
  obtain ⟨a, rfl, ha⟩ : ∃ b : Nat, i = (b : Int) ∧ b < 4294967296 := ⟨i.toNat, by have := u32w hi; omega, by have := u32w hi; omega⟩
  obtain ⟨b, rfl, hb⟩ : ∃ b : Nat, j = (b : Int) ∧ b < 4294967296 := ⟨j.toNat, by have := u32w hj; omega, by have := u32w hj; omega⟩
  obtain ⟨c, rfl, hc⟩ : ∃ b : Nat, m = (b : Int) ∧ b < 4294967296 := ⟨m.toNat, by have := u32w hm; omega, by have := u32w hm; omega⟩
  have X1 := expand_c a ha
  have X2 := expand_c b hb
  have X3 := expand_c c hc
  have M1 := meets_c k hk a c ha hc
  have M2 := meets_c k hk b c hb hc
  have C1 := cmp_c (expandN a).1 (expandN c).1 (expandN_lt a hT) (expandN_lt c hT)
  by_cases hbad : badT a = true ∨ badT c = true ∨ (expandN c).1 < (expandN a).1
  · rw [meetsN_bad hbad] at M1
    refine tmeets_bad k hk a b c _ _ _ _ _ _ _ _ w0 X1 X2 X3 M1 M2 C1 ?_
    rw [cmp_gt]
    cases h1 : badT a with
    | true => exact .inl (by rw [expandN_bad h1]; rfl)
    | false =>
      rw [expandN_of h1]
      cases h2 : badT c with
      | true => exact .inr (.inl ⟨rfl, by rw [expandN_bad h2]; rfl⟩)
      | false =>
        refine .inr (.inr ⟨rfl, by rw [expandN_of h2]; rfl, decide_eq_true ?_⟩)
        rcases hbad with h | h | h
        · rw [h1] at h; cases h
        · rw [h2] at h; cases h
        · rw [expandN_of h1] at h; exact h
  · have h1 : badT a = false := by cases h : badT a with | false => rfl | true => exact absurd (.inl h) hbad
    have h2 : badT c = false := by cases h : badT c with | false => rfl | true => exact absurd (.inr (.inl h)) hbad
    have h3 : ¬ rawT c < rawT a := fun h => hbad (.inr (.inr (by rw [expandN_of h1, expandN_of h2]; exact h)))
    have ho := rawT_odd h1
    rw [expandN_of h1] at X1
    rw [expandN_of h2] at X3
    rw [expandN_of h1, expandN_of h2] at C1
    have A1 := add_c (rawT a) 1 (by omega) (by omega)
    rw [Nat.mod_eq_of_lt ho, decide_eq_false (by omega)] at A1
    have hl (n : Nat) : (bytesOf n).reverse.length = 32 := by rw [List.length_reverse, bytesOf_length]
    have M3 := meets_c (bytesOf (rawT a)).reverse (hl _) a c ha hc
    rw [meetsN_ok h1 h2 h3, List.reverse_reverse, beN_bytesOf (by omega), if_neg (Nat.lt_irrefl _)] at M3
    have M4 := meets_c (bytesOf (rawT a + 1)).reverse (hl _) a c ha hc
    rw [meetsN_ok h1 h2 h3, List.reverse_reverse, beN_bytesOf ho, if_pos (by omega)] at M4
    rw [meetsN_ok h1 h2 h3] at M1
    have hn : beN k.reverse < top := beN_top (by rw [List.length_reverse]; omega)
    have hs := expandN_lt b hT
    have C3 := cmp_c (rawT a) (expandN b).1 (by omega) hs
    have hc3 : rawT c < top := by have := rawT_odd h2; omega
    have C4 := cmp_c (expandN b).1 (rawT c) hs hc3
    have C5 := cmp_c (beN k.reverse) (rawT a) hn (by omega)
    refine tmeets_main k (bytesOf (rawT a)).reverse (bytesOf (rawT a + 1)).reverse hk a b c (rawT a) _ (rawT c) (rawT a + 1) (beN k.reverse) _ _ _ _ _ _ _ w0 X1 X2 X3 M1 M2 C1 ?_ (of_lit 1 (by decide)) A1 (fun w => hfromnumber_c _ w) (fun w => hfromnumber_c _ w) M3 M4 C3 C4 (fun w => hnumber_c k hk w) C5 ?_ ?_
    · rw [cmp_gt]; exact decide_eq_false h3
    · rw [cmp_le]
      by_cases h : rawT a < beN k.reverse
      · rw [if_pos h]; exact .inr ⟨rfl, decide_eq_false (by omega)⟩
      · rw [if_neg h]; exact .inl ⟨rfl, decide_eq_true (by omega)⟩
    · rw [cmp_le, cmp_le]
      cases h4 : badT b with
      | true => exact .inl (by rw [expandN_bad h4]; rfl)
      | false =>
        rw [expandN_of h4]
        by_cases h5 : rawT a ≤ rawT b
        · by_cases h6 : rawT b ≤ rawT c
          · refine .inr (.inr (.inr ⟨rfl, decide_eq_true h5, decide_eq_true h6, fun hx => ?_⟩))
            rw [meetsN_ok h4 h2 (by omega)]
            by_cases h : rawT a < beN k.reverse
            · rw [if_pos h] at hx; cases hx
            · rw [if_neg (by omega)]; rfl
          · exact .inr (.inr (.inl ⟨rfl, decide_eq_true h5, decide_eq_false h6⟩))
        · exact .inr (.inl ⟨rfl, decide_eq_false h5⟩)

open Go.ChangeShapes Go.WideShapes Go.ChangeAt
theorem targetMeets_joined : joinedFacts Try.pinned.checked.prog 21 Try.f21 Rows.targetMeetsSpec Rows.targetMeetsRow = true := and_mk (and_mk (and_mk (and_mk (and_mk (and_mk (and_mk (and_mk (and_mk (and_mk (and_mk (and_mk (and_mk (and_mk (and_mk (and_mk (and_mk (and_mk (and_mk (and_mk (and_mk (and_mk (and_mk (and_mk (and_mk (and_mk (and_mk (and_mk (and_mk (and_mk (and_mk (by as_aux_lemma => kernel_rfl) laidOut) pf_maps) (by as_aux_lemma => kernel_rfl)) (by as_aux_lemma => kernel_rfl)) (by as_aux_lemma => kernel_rfl)) pf_stops) (by as_aux_lemma => kernel_rfl)) pf_knobs) (by as_aux_lemma => kernel_rfl)) (by as_aux_lemma => kernel_rfl)) (by as_aux_lemma => kernel_rfl)) (by as_aux_lemma => kernel_rfl)) (by as_aux_lemma => kernel_rfl)) (by as_aux_lemma => kernel_rfl)) (by as_aux_lemma => kernel_rfl)) (by as_aux_lemma => kernel_rfl)) (by as_aux_lemma => kernel_rfl)) (by as_aux_lemma => kernel_rfl)) (by as_aux_lemma => kernel_rfl)) (by as_aux_lemma => kernel_rfl)) (by as_aux_lemma => kernel_rfl)) pf_plain) (by as_aux_lemma => kernel_rfl)) pf_heard) pf_enter) pf_lifts) pf_make) (by as_aux_lemma => kernel_rfl)) (by as_aux_lemma => kernel_rfl)) (by as_aux_lemma => kernel_rfl)) (by as_aux_lemma => kernel_rfl)
set_option maxRecDepth 100000 in
theorem targetMeets_lifted (os : Os) (started : os.Started) (H : Type) (enc : TypeId × Value → H) :
    ReturnsInHanded {} Try.checked os 21 .any (Rows.targetMeetsSpec.pre6 enc Try.prog Try.f21 Rows.targetMeetsRow.domain false) (Rows.targetMeetsSpec.post enc Try.prog Try.f21 false true false false) := by
  refine returnsInHanded_of_change (C := Try.checked) own started (by kernel_rfl) Try.func21
    (ChangeSpec.witness6 (enc := enc) (C := Try.checked) false ⟨#[], #[.agg (Array.replicate 32 (.int .u8 0)), .int .u32 0, .int .u32 0, .int .u32 0], []⟩ 8 (by kernel_rfl) (by kernel_rfl) (by kernel_rfl) (by kernel_rfl)) ?_
  intro W base args ds gs before hval0 hW hcnd _
  have hval : ∀ (j : Nat) t v, Try.f21.params[j]? = some t → args[j]? = some v → Value.okWide Try.prog W .any base t v := hval0
  have hW' := hW
  obtain ⟨p, q, hA0, hV, rfl, hfz, hnd⟩ := hW
  have hA : DataW.TrodAll enc Try.prog W 0 (fun _ => true) true Try.f21.params.toList args.toList ds p := hA0
  rw [Try.params21] at hA hval
  obtain ⟨v0, vs0, d0, ds0, p0, q0, hargs, rfl, rfl, h0, r0⟩ := trodAll_cons hA
  obtain ⟨v1, vs1, d1, ds1, p1, q1, rfl, rfl, rfl, h1, r1⟩ := trodAll_cons r0
  obtain ⟨v2, vs2, d2, ds2, p2, q2, rfl, rfl, rfl, h2, r2⟩ := trodAll_cons r1
  obtain ⟨v3, vs3, d3, ds3, p3, q3, rfl, rfl, rfl, h3, r3⟩ := trodAll_cons r2
  obtain ⟨rfl, rfl, rfl⟩ := trodAll_nil r3
  obtain rfl : args = #[v0, v1, v2, v3] := by cases args; simp_all
  obtain ⟨rfl, rfl⟩ := trodVars_none hV
  have k0 := h0
  have lt0 : ∀ x ∈ p0, x.block < W.heap.size := by obtain ⟨m, hm⟩ := k0; exact DataW.trod_lt m _ _ _ hm
  have k1 := h1
  have lt1 : ∀ x ∈ p1, x.block < W.heap.size := by obtain ⟨m, hm⟩ := k1; exact DataW.trod_lt m _ _ _ hm
  have k2 := h2
  have lt2 : ∀ x ∈ p2, x.block < W.heap.size := by obtain ⟨m, hm⟩ := k2; exact DataW.trod_lt m _ _ _ hm
  have k3 := h3
  have lt3 : ∀ x ∈ p3, x.block < W.heap.size := by obtain ⟨m, hm⟩ := k3; exact DataW.trod_lt m _ _ _ hm
  obtain ⟨a0, w0, rfl⟩ := open_hash Try.underlying23 (by kernel_rfl) (hval 0 23 v0 rfl rfl) h0
  obtain ⟨a1, rfl, rfl, rfl, w1⟩ := open_int Try.underlying43 (hval 1 43 v1 rfl rfl) h1
  obtain ⟨a2, rfl, rfl, rfl, w2⟩ := open_int Try.underlying43 (hval 2 43 v2 rfl rfl) h2
  obtain ⟨a3, rfl, rfl, rfl, w3⟩ := open_int Try.underlying43 (hval 3 43 v3 rfl rfl) h3
  clear hA0 hval0
  refine (tmeets_walk W a0 a1 a2 a3 w0 w1 w2 w3).mono fun e W' ⟨he, bel⟩ => ?_
  subst he
  exact ⟨_, rfl, _, _, _, [], _, [], hW', trodAll_mk1 (shut_bool Try.underlying4 _), (trodAll_cons_mk (Below.trod laidOut (by kernel_rfl) (of_decide_eq_true (by kernel_rfl)) k0 bel lt0) (trodAll_cons_mk (Below.trod laidOut (by kernel_rfl) (of_decide_eq_true (by kernel_rfl)) k1 bel lt1) (trodAll_cons_mk (Below.trod laidOut (by kernel_rfl) (of_decide_eq_true (by kernel_rfl)) k2 bel lt2) (trodAll_cons_mk (Below.trod laidOut (by kernel_rfl) (of_decide_eq_true (by kernel_rfl)) k3 bel lt3) trodAll_mk0)))), rfl, bel.frame _, fun h => by cases h⟩
theorem targetMeets_over : Rows.targetMeetsRow.holds Try.pinned (OpenSpec.ofChange Rows.targetMeetsSpec) :=
  OpenClaim.holds_of_wide 21 Try.f21 rfl rfl rfl rfl rfl rfl rfl ⟨rfl, rfl, rfl, rfl, rfl⟩ rfl rfl rfl rfl rfl (by kernel_rfl) Try.func21 targetMeets_joined
    (of_decide_eq_true (by kernel_rfl)) (by unfold Func.isWrapper; first | (rw [if_pos (by decide +kernel)]; kernel_rfl) | (rw [if_neg (by decide +kernel)]; exact ⟨rfl, rfl⟩))
    (fun os started H enc _ => targetMeets_lifted os started H enc)
/-- The statement. -/
theorem targetMeets_proved : Rows.TargetMeetsSaid := targetMeets_over
#print axioms targetMeets_proved
end Go.Proofs.Ytkgjgdeaclefiaa
