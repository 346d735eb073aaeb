/-
  florinlaw13.RetargetHolds: for any rules, height and header the law answers true.
-/
import Derived.Test.YtkgjgdeaclefiaaRt6
namespace Go.Proofs.Ytkgjgdeaclefiaa
open Go Go.Proofs Go.RowKit Go.Flo

theorem rawT_ne {b : Nat} (h : badT b = false) : rawT b ≠ 0 := by
  unfold badT at h
  simp only [Bool.or_eq_false_iff, decide_eq_false_iff_not] at h
  exact h.2.1
theorem scaleQ_le (t l n d : Nat) (hl : l ≠ 0) : scaleQ t l n d ≤ l ∧ scaleQ t l n d ≠ 0 := by
  unfold scaleQ
  split
  · exact ⟨Nat.le_refl _, hl⟩
  · rename_i h
    refine ⟨Nat.le_of_not_lt fun e => h (.inr (.inr e)), fun e => h (.inr (.inl e))⟩
/-- Shrunk it is no greater, and good. -/
theorem shrink_good {q : Nat} (h0 : q ≠ 0) (hq : q < top) : badT (shrinkN q) = false ∧ rawT (shrinkN q) ≤ q ∧ shrinkN q < 4294967296 := by
  obtain ⟨K, h1, h2, _, _, _, _, h3⟩ := back_core h0 hq top_24
  exact ⟨h2, by rw [h1]; exact Nat.div_mul_le_self _ _, h3⟩
theorem scale_good (a n d c : Nat) (hc : badT c = false) (hcl : c < 4294967296) : badT (scaleN a n d c) = false ∧ rawT (scaleN a n d c) ≤ rawT c ∧ scaleN a n d c < 4294967296 := by
  unfold scaleN
  split
  · exact ⟨hc, Nat.le_refl _, hcl⟩
  · obtain ⟨h1, h2⟩ := scaleQ_le (rawT a) (rawT c) n d (rawT_ne hc)
    obtain ⟨g1, g2, g3⟩ := shrink_good h2 (Nat.lt_of_le_of_lt h1 (rawT_ltB hc))
    exact ⟨g1, Nat.le_trans g2 h1, g3⟩
theorem cmp_le13 (m n : Nat) : decide (cmpI m n ≤ 0) = decide (m ≤ n) := by
  unfold cmpI
  by_cases h : m < n
  · rw [if_pos h, decide_eq_true (show m ≤ n by omega)]; rfl
  · rw [if_neg h]
    by_cases h2 : n < m
    · rw [if_pos h2, decide_eq_false (show ¬ m ≤ n by omega)]; rfl
    · rw [if_neg h2, decide_eq_true (show m ≤ n by omega)]; rfl
theorem rholds_walk (w0 : World) (P : Value) (height : Int) (V : Value) (first : Int) (hP : ∃ (c : Nat) (i s f x o : Int) (a : Option Addr) (n cp : Nat), P = prm c i s f x o a n cp ∧ c < 4294967296 ∧ -9223372036854775808 ≤ i ∧ i ≤ 9223372036854775807)
    (hh : (Lit.int .i64 height).wf = true) (hV : ∃ (hc : Array Value) (time bits : Nat), V = .agg hc ∧ hc.size = 68 ∧ hc[65]? = some (.int .u32 (time : Int)) ∧ hc[66]? = some (.int .u32 (bits : Int)) ∧ time < 4294967296 ∧ bits < 4294967296) (hf : (Lit.int .u32 first).wf = true) :
    Calls Try.prog 22 #[P, .int .i64 height, V, .int .u32 first] w0 fun e w' => e = .returned (.bool true) ∧ Below w0.heap.size w0 w' := by
  obtain ⟨c, i, s, f, x, o, a, n, cp, rfl, hc, hi1, hi2⟩ := hP
  obtain ⟨hA, time, bits, rfl, hsz, h65, h66, htm, hbt⟩ := hV
  obtain ⟨fn, rfl, hfn⟩ := n32_of_wf hf
  have hh2 := (i64_of_wf hh).2
  by_cases hn : 200 < n
  · exact rholds_short c n cp i s f x o height _ a hA w0 (by omega)
  have NX := next_c c i s f x o a n cp height hA bits (time : Int) (fn : Int) hc hbt h65 h66 (by omega) (by omega) (by omega) (by omega) hh2
  have SG := sane_g c i s f x o a n cp hc
  have X1 := expand_c c hc
  cases hq : saneB c i s f x o n with
  | false =>
    rw [hq] at SG
    have e : nextI c i s f x o n height bits time fn = c := by unfold nextI; rw [if_pos hq]
    rw [e] at NX
    exact rholds_main c n cp c _ _ i s f x o height fn bits _ _ _ a hA false w0 (by omega) (Lib.hid hsz) h66 NX X1 X1 SG (cmp_c _ _ (expandN_lt c top_24) (expandN_lt c top_24)) hh2 (.inl ⟨rfl, rfl⟩)
  | true =>
    rw [hq] at SG
    obtain ⟨g0, g1, g2, g3, g4⟩ := sane_facts hq
    by_cases h0 : height ≤ 0
    · have e : nextI c i s f x o n height bits time fn = bits := by unfold nextI; rw [if_neg (by rw [hq]; decide), if_pos (.inl h0)]
      rw [e] at NX
      exact rholds_main c n cp bits _ _ i s f x o height fn bits _ _ _ a hA true w0 (by omega) (Lib.hid hsz) h66 NX X1 (expand_c bits hbt) SG (cmp_c _ _ (expandN_lt bits top_24) (expandN_lt c top_24)) hh2 (.inr (.inl ⟨rfl, by omega, g2, h0, rfl⟩))
    by_cases hm : height % i = 0
    · have e : nextI c i s f x o n height bits time fn = scaleN bits (clampI (time - fn) s).toNat s.toNat c := by
        unfold nextI
        rw [if_neg (by rw [hq]; decide), if_neg (fun h => h.elim h0 (fun h => h hm))]
      obtain ⟨k1, k2, k3⟩ := scale_good bits (clampI (time - fn) s).toNat s.toNat c g0 hc
      rw [e] at NX
      generalize scaleN bits (clampI (time - fn) s).toNat s.toNat c = b at *
      have X2 := expand_c b k3
      rw [expandN_of g0] at X1
      rw [expandN_of k1] at X2
      have C1 := cmp_c (rawT b) (rawT c) (rawT_ltB k1) (rawT_ltB g0)
      refine rholds_main c n cp b _ _ i s f x o height fn bits _ _ _ a hA true w0 (by omega) (Lib.hid hsz) h66 NX X1 X2 SG C1 hh2 (.inr (.inr (.inr ⟨rfl, by omega, g2, by omega, hm, rfl, rfl, ?_⟩)))
      rw [cmp_le13]
      exact decide_eq_true k2
    · have e : nextI c i s f x o n height bits time fn = bits := by unfold nextI; rw [if_neg (by rw [hq]; decide), if_pos (.inr hm)]
      rw [e] at NX
      exact rholds_main c n cp bits _ _ i s f x o height fn bits _ _ _ a hA true w0 (by omega) (Lib.hid hsz) h66 NX X1 (expand_c bits hbt) SG (cmp_c _ _ (expandN_lt bits top_24) (expandN_lt c top_24)) hh2 (.inr (.inr (.inl ⟨rfl, by omega, g2, by omega, bne_iff_ne.2 hm, rfl⟩)))

open Go.ChangeShapes Go.WideShapes Go.ChangeAt
theorem retargetHolds_joined : joinedFacts Try.pinned.checked.prog 22 Try.f22 Rows.retargetHoldsSpec Rows.retargetHoldsRow = true := and_mk (and_mk (and_mk (and_mk (and_mk (and_mk (and_mk (and_mk (and_mk (and_mk (and_mk (and_mk (and_mk (and_mk (and_mk (and_mk (and_mk (and_mk (and_mk (and_mk (and_mk (and_mk (and_mk (and_mk (and_mk (and_mk (and_mk (and_mk (and_mk (and_mk (and_mk (by as_aux_lemma => kernel_rfl) laidOut) pf_maps) (by as_aux_lemma => kernel_rfl)) (by as_aux_lemma => kernel_rfl)) (by as_aux_lemma => kernel_rfl)) pf_stops) (by as_aux_lemma => kernel_rfl)) pf_knobs) (by as_aux_lemma => kernel_rfl)) (by as_aux_lemma => kernel_rfl)) (by as_aux_lemma => kernel_rfl)) (by as_aux_lemma => kernel_rfl)) (by as_aux_lemma => kernel_rfl)) (by as_aux_lemma => kernel_rfl)) (by as_aux_lemma => kernel_rfl)) (by as_aux_lemma => kernel_rfl)) (by as_aux_lemma => kernel_rfl)) (by as_aux_lemma => kernel_rfl)) (by as_aux_lemma => kernel_rfl)) (by as_aux_lemma => kernel_rfl)) (by as_aux_lemma => kernel_rfl)) pf_plain) (by as_aux_lemma => kernel_rfl)) pf_heard) pf_enter) pf_lifts) pf_make) (by as_aux_lemma => kernel_rfl)) (by as_aux_lemma => kernel_rfl)) (by as_aux_lemma => kernel_rfl)) (by as_aux_lemma => kernel_rfl)
set_option maxRecDepth 100000 in
theorem retargetHolds_lifted (os : Os) (started : os.Started) (H : Type) (enc : TypeId × Value → H) :
    ReturnsInHanded {} Try.checked os 22 .any (Rows.retargetHoldsSpec.pre6 enc Try.prog Try.f22 Rows.retargetHoldsRow.domain false) (Rows.retargetHoldsSpec.post enc Try.prog Try.f22 false true false false) := by
  refine returnsInHanded_of_change (C := Try.checked) own started (by kernel_rfl) Try.func22
    (ChangeSpec.witness6 (enc := enc) (C := Try.checked) false ⟨#[], #[.agg #[.int .u32 0, .int .i64 0, .int .i64 0, .int .i64 0, .int .i64 0, .int .i64 0, .slice none 0 0], .int .i64 0, .agg (#[.int .u32 0] ++ Array.replicate 64 (.int .u8 0) ++ #[.int .u32 0, .int .u32 0, .int .u32 0]), .int .u32 0], []⟩ 8 (by kernel_rfl) (by kernel_rfl) (by kernel_rfl) (by kernel_rfl)) ?_
  intro W base args ds gs before hval0 hW hcnd _
  have hval : ∀ (j : Nat) t v, Try.f22.params[j]? = some t → args[j]? = some v → Value.okWide Try.prog W .any base t v := hval0
  have hW' := hW
  obtain ⟨p, q, hA0, hV, rfl, hfz, hnd⟩ := hW
  have hA : DataW.TrodAll enc Try.prog W 0 (fun _ => true) true Try.f22.params.toList args.toList ds p := hA0
  rw [Try.params22] at hA hval
  obtain ⟨v0, vs0, d0, ds0, p0, q0, hargs, rfl, rfl, h0, r0⟩ := trodAll_cons hA
  obtain ⟨v1, vs1, d1, ds1, p1, q1, rfl, rfl, rfl, h1, r1⟩ := trodAll_cons r0
  obtain ⟨v2, vs2, d2, ds2, p2, q2, rfl, rfl, rfl, h2, r2⟩ := trodAll_cons r1
  obtain ⟨v3, vs3, d3, ds3, p3, q3, rfl, rfl, rfl, h3, r3⟩ := trodAll_cons r2
  obtain ⟨rfl, rfl, rfl⟩ := trodAll_nil r3
  obtain rfl : args = #[v0, v1, v2, v3] := by cases args; simp_all
  obtain ⟨rfl, rfl⟩ := trodVars_none hV
  have k0 := h0
  have lt0 : ∀ x ∈ p0, x.block < W.heap.size := by obtain ⟨m, hm⟩ := k0; exact DataW.trod_lt m _ _ _ hm
  have k1 := h1
  have lt1 : ∀ x ∈ p1, x.block < W.heap.size := by obtain ⟨m, hm⟩ := k1; exact DataW.trod_lt m _ _ _ hm
  have k2 := h2
  have lt2 : ∀ x ∈ p2, x.block < W.heap.size := by obtain ⟨m, hm⟩ := k2; exact DataW.trod_lt m _ _ _ hm
  have k3 := h3
  have lt3 : ∀ x ∈ p3, x.block < W.heap.size := by obtain ⟨m, hm⟩ := k3; exact DataW.trod_lt m _ _ _ hm
  have w0 := open_params (hval 0 113 v0 rfl rfl) h0
  obtain ⟨a1, rfl, rfl, rfl, w1⟩ := open_int Try.underlying3 (hval 1 3 v1 rfl rfl) h1
  have w2 := open_header (hval 2 115 v2 rfl rfl) h2
  obtain ⟨a3, rfl, rfl, rfl, w3⟩ := open_int Try.underlying43 (hval 3 43 v3 rfl rfl) h3
  clear hA0 hval0
  refine (rholds_walk W v0 a1 v2 a3 w0 w1 w2 w3).mono fun e W' ⟨he, bel⟩ => ?_
  subst he
  exact ⟨_, rfl, _, _, _, [], _, [], hW', trodAll_mk1 (shut_bool Try.underlying4 _), (trodAll_cons_mk (Below.trod laidOut (by kernel_rfl) (of_decide_eq_true (by kernel_rfl)) k0 bel lt0) (trodAll_cons_mk (Below.trod laidOut (by kernel_rfl) (of_decide_eq_true (by kernel_rfl)) k1 bel lt1) (trodAll_cons_mk (Below.trod laidOut (by kernel_rfl) (of_decide_eq_true (by kernel_rfl)) k2 bel lt2) (trodAll_cons_mk (Below.trod laidOut (by kernel_rfl) (of_decide_eq_true (by kernel_rfl)) k3 bel lt3) trodAll_mk0)))), rfl, bel.frame _, fun h => by cases h⟩
theorem retargetHolds_over : Rows.retargetHoldsRow.holds Try.pinned (OpenSpec.ofChange Rows.retargetHoldsSpec) :=
  OpenClaim.holds_of_wide 22 Try.f22 rfl rfl rfl rfl rfl rfl rfl ⟨rfl, rfl, rfl, rfl, rfl⟩ rfl rfl rfl rfl rfl (by kernel_rfl) Try.func22 retargetHolds_joined
    (of_decide_eq_true (by kernel_rfl)) (by unfold Func.isWrapper; first | (rw [if_pos (by decide +kernel)]; kernel_rfl) | (rw [if_neg (by decide +kernel)]; exact ⟨rfl, rfl⟩))
    (fun os started H enc _ => retargetHolds_lifted os started H enc)
/-- The statement. -/
theorem retargetHolds_proved : Rows.RetargetHoldsSaid := retargetHolds_over
#print axioms retargetHolds_proved
end Go.Proofs.Ytkgjgdeaclefiaa
