/-
  florinlaw05.TargetSums: for all lists of bits the law answers true.
-/
import Derived.Test.YtkgjgdeaclefiaaSums
import Derived.Test.YtkgjgdeaclefiaaLft
namespace Go.Proofs.Ytkgjgdeaclefiaa
open Go Go.Proofs Go.RowKit Go.Flo

set_option maxRecDepth 100000 in
set_option maxHeartbeats 4000000 in
theorem tsums_short (v0 v1 : Value) (l m : List Nat) (b : Int) (w0 : World) (hs0 : ∃ a c, v0 = .slice a l.length c) (hs1 : ∃ a c, v1 = .slice a m.length c) (h : 20 < l.length ∨ (¬ 20 < l.length ∧ 20 < m.length)) :
    Calls Try.prog 18 #[v0, v1, .int .u32 b] w0 fun e w' => e = .returned (.bool true) ∧ Below w0.heap.size w0 w' := by
  obtain ⟨a0, c0, rfl⟩ := hs0
  obtain ⟨a1, c1, rfl⟩ := hs1
  rcases h with h | ⟨h, h2⟩
  · have h' : 20 < (l.length : Int) := by omega
    have M := Mem.nil w0; have F := Mem.facts M; simp only [MemFacts] at F; (try simp only [ApartFacts] at F)
    go_enter Try.func18, Try.ntmps18
    go_wp2_with (first | (go_at_call 86; (with_reducible refine (awake5 _).mono ?_); rintro e w1 ⟨rfl, hb⟩; replace M := Mem.call (w0 := w0) (by repeat' (first | (with_reducible exact M) | (with_reducible apply Mem.drew) | (with_reducible apply Mem.alloc))) hb; clear hb; (try clear F); (try simp only [World.size_alloc] at M); (try simp only [heap_drew] at M); have F := Mem.facts M; simp only [MemFacts] at F; (try simp only [ApartFacts] at F)))
    (go_wp2_with (fail); refine bodyPost_ret (v := .bool true) (by simp [results, Try.results18, go_sem]) rfl ⟨rfl, (Mem.below (w0 := w0) (by repeat' (first | (with_reducible exact M) | (with_reducible apply Mem.drew) | (with_reducible apply Mem.alloc))))⟩)
  · have h' : ¬ (20 < (l.length : Int)) := by omega
    have h2' : 20 < (m.length : Int) := by omega
    have M := Mem.nil w0; have F := Mem.facts M; simp only [MemFacts] at F; (try simp only [ApartFacts] at F)
    go_enter Try.func18, Try.ntmps18
    go_wp2_with (first | (go_at_call 86; (with_reducible refine (awake5 _).mono ?_); rintro e w1 ⟨rfl, hb⟩; replace M := Mem.call (w0 := w0) (by repeat' (first | (with_reducible exact M) | (with_reducible apply Mem.drew) | (with_reducible apply Mem.alloc))) hb; clear hb; (try clear F); (try simp only [World.size_alloc] at M); (try simp only [heap_drew] at M); have F := Mem.facts M; simp only [MemFacts] at F; (try simp only [ApartFacts] at F)))
    (go_wp2_with (fail); refine bodyPost_ret (v := .bool true) (by simp [results, Try.results18, go_sem]) rfl ⟨rfl, (Mem.below (w0 := w0) (by repeat' (first | (with_reducible exact M) | (with_reducible apply Mem.drew) | (with_reducible apply Mem.alloc))))⟩)
theorem cmpI_gt (m n : Nat) : decide (0 < cmpI m n) = decide (n < m) := by
  unfold cmpI
  by_cases h : m < n
  · rw [if_pos h, decide_eq_false (show ¬ n < m by omega)]; rfl
  · rw [if_neg h]
    by_cases h2 : n < m
    · rw [if_pos h2, decide_eq_true h2]; rfl
    · rw [if_neg h2, decide_eq_false h2]; rfl
theorem work_of_bad {b : Nat} (h : badT b = true) : workN b = 0 := by unfold workN; rw [h]; rfl
theorem work_pos {b : Nat} (h : badT b = false) : 0 < workN b := by
  have h1 := rawT_odd h
  unfold workN
  rw [h]
  show 0 < top / (rawT b + 1)
  exact Nat.div_pos (by omega) (by omega)
theorem tsums_walk (w0 : World) (v0 : Value) (l : List Nat) (v1 : Value) (m : List Nat) (i : Int) (h0 : (∀ x ∈ l, x < 4294967296) ∧ Rd32 w0 v0 l) (h1 : (∀ x ∈ m, x < 4294967296) ∧ Rd32 w0 v1 m) (hi : (Lit.int .u32 i).wf = true) :
    Calls Try.prog 18 #[v0, v1, .int .u32 i] w0 fun e w' => e = .returned (.bool true) ∧ Below w0.heap.size w0 w' := by
  have hT := top_24
  obtain ⟨b, rfl, hb⟩ : ∃ b : Nat, i = (b : Int) ∧ b < 4294967296 := ⟨i.toNat, by have := u32_wf hi; omega, by have := u32_wf hi; omega⟩
  by_cases hl : 20 < l.length
  · exact tsums_short v0 v1 l m _ w0 h0.2.shape h1.2.shape (.inl hl)
  by_cases hm : 20 < m.length
  · exact tsums_short v0 v1 l m _ w0 h0.2.shape h1.2.shape (.inr ⟨hl, hm⟩)
  obtain ⟨hw0, hr0⟩ := h0
  obtain ⟨hw1, hr1⟩ := h1
  have R0 := rd32_C hr0
  have R1 := rd32_C hr1
  have hlm : ∀ x ∈ l ++ m, x < 4294967296 := fun x hx => (List.mem_append.1 hx).elim (hw0 x) (hw1 x)
  have hlb : ∀ x ∈ l ++ [b], x < 4294967296 := fun x hx => (List.mem_append.1 hx).elim (hw0 x) (fun h => by rw [List.mem_singleton.1 h]; exact hb)
  have A1 := add_c (sumW l % top) (sumW m % top) (Nat.mod_lt _ (by omega)) (Nat.mod_lt _ (by omega))
  rw [← Nat.add_mod, ← sumW_append] at A1
  have C1 := cmp_c (sumW (l ++ [b]) % top) (sumW l % top) (Nat.mod_lt _ (by omega)) (Nat.mod_lt _ (by omega))
  refine tsums_main v0 v1 l m b (sumW l % top) (sumW m % top) (sumW (l ++ m) % top) (sumW (l ++ [b]) % top) _ (decide (top ≤ sumW l)) (decide (top ≤ sumW m)) (decide (top ≤ sumW (l ++ m))) _ (decide (top ≤ sumW (l ++ [b]))) _ _ w0 (by omega) (by omega) R0 R1
    (fun w hb => total_c v0 l (by omega) hw0 w (rd32_of (R0.below hb))) (fun w hb => total_c v1 m (by omega) hw1 w (rd32_of (R1.below hb)))
    (fun w v hR => total_c v (l ++ m) (by rw [List.length_append]; omega) hlm w (rd32_of (by rw [List.length_append, w32_append]; simpa using hR)))
    (fun w v hR => total_c v (l ++ [b]) (by rw [List.length_append]; simp; omega) hlb w (rd32_of (by rw [List.length_append, w32_append]; rw [Nat.zero_add, List.nil_append] at hR; exact hR)))
    A1 (expand_c b hb) C1 ?_ ?_
  · rw [sumW_append]
    by_cases h1 : top ≤ sumW l
    · exact .inl ⟨decide_eq_true h1, decide_eq_true (by omega)⟩
    by_cases h2 : top ≤ sumW m
    · exact .inr (.inl ⟨decide_eq_false h1, decide_eq_true h2, decide_eq_true (by omega)⟩)
    rw [Nat.mod_eq_of_lt (by omega : sumW l < top), Nat.mod_eq_of_lt (by omega : sumW m < top)]
    by_cases h3 : top ≤ sumW l + sumW m
    · exact .inr (.inr (.inl ⟨decide_eq_false h1, decide_eq_false h2, decide_eq_true h3, decide_eq_true h3⟩))
    · exact .inr (.inr (.inr ⟨decide_eq_false h1, decide_eq_false h2, decide_eq_false h3, decide_eq_false h3⟩))
  · rw [cmpI_gt, sumW_snoc]
    cases hbd : badT b with
    | true =>
      rw [expandN_bad hbd, work_of_bad hbd, Nat.add_zero]
      by_cases h1 : top ≤ sumW l
      · exact .inr (.inr (.inl ⟨rfl, rfl, decide_eq_true h1⟩))
      · exact .inr (.inr (.inr ⟨rfl, rfl, decide_eq_false h1, decide_eq_false (by omega)⟩))
    | false =>
      rw [expandN_of hbd]
      have hp := work_pos hbd
      by_cases h1 : top ≤ sumW l + workN b
      · exact .inl ⟨rfl, decide_eq_true h1⟩
      · refine .inr (.inl ⟨rfl, decide_eq_false h1, decide_eq_true ?_⟩)
        rw [Nat.mod_eq_of_lt (by omega : sumW l < top), Nat.mod_eq_of_lt (by omega : sumW l + workN b < top)]
        omega

open Go.ChangeShapes Go.WideShapes Go.ChangeAt
theorem targetSums_joined : joinedFacts Try.pinned.checked.prog 18 Try.f18 Rows.targetSumsSpec Rows.targetSumsRow = true := and_mk (and_mk (and_mk (and_mk (and_mk (and_mk (and_mk (and_mk (and_mk (and_mk (and_mk (and_mk (and_mk (and_mk (and_mk (and_mk (and_mk (and_mk (and_mk (and_mk (and_mk (and_mk (and_mk (and_mk (and_mk (and_mk (and_mk (and_mk (and_mk (and_mk (and_mk (by as_aux_lemma => kernel_rfl) laidOut) pf_maps) (by as_aux_lemma => kernel_rfl)) (by as_aux_lemma => kernel_rfl)) (by as_aux_lemma => kernel_rfl)) pf_stops) (by as_aux_lemma => kernel_rfl)) pf_knobs) (by as_aux_lemma => kernel_rfl)) (by as_aux_lemma => kernel_rfl)) (by as_aux_lemma => kernel_rfl)) (by as_aux_lemma => kernel_rfl)) (by as_aux_lemma => kernel_rfl)) (by as_aux_lemma => kernel_rfl)) (by as_aux_lemma => kernel_rfl)) (by as_aux_lemma => kernel_rfl)) (by as_aux_lemma => kernel_rfl)) (by as_aux_lemma => kernel_rfl)) (by as_aux_lemma => kernel_rfl)) (by as_aux_lemma => kernel_rfl)) (by as_aux_lemma => kernel_rfl)) pf_plain) (by as_aux_lemma => kernel_rfl)) pf_heard) pf_enter) pf_lifts) pf_make) (by as_aux_lemma => kernel_rfl)) (by as_aux_lemma => kernel_rfl)) (by as_aux_lemma => kernel_rfl)) (by as_aux_lemma => kernel_rfl)
set_option maxRecDepth 100000 in
theorem targetSums_lifted (os : Os) (started : os.Started) (H : Type) (enc : TypeId × Value → H) :
    ReturnsInHanded {} Try.checked os 18 .any (Rows.targetSumsSpec.pre6 enc Try.prog Try.f18 Rows.targetSumsRow.domain false) (Rows.targetSumsSpec.post enc Try.prog Try.f18 false true false false) := by
  refine returnsInHanded_of_change (C := Try.checked) own started (by kernel_rfl) Try.func18
    (ChangeSpec.witness6 (enc := enc) (C := Try.checked) false ⟨#[], #[.slice none 0 0, .slice none 0 0, .int .u32 0], []⟩ 8 (by kernel_rfl) (by kernel_rfl) (by kernel_rfl) (by kernel_rfl)) ?_
  intro W base args ds gs before hval0 hW hcnd _
  have hval : ∀ (j : Nat) t v, Try.f18.params[j]? = some t → args[j]? = some v → Value.okWide Try.prog W .any base t v := hval0
  have hW' := hW
  obtain ⟨p, q, hA0, hV, rfl, hfz, hnd⟩ := hW
  have hA : DataW.TrodAll enc Try.prog W 0 (fun _ => true) true Try.f18.params.toList args.toList ds p := hA0
  rw [Try.params18] at hA hval
  obtain ⟨v0, vs0, d0, ds0, p0, q0, hargs, rfl, rfl, h0, r0⟩ := trodAll_cons hA
  obtain ⟨v1, vs1, d1, ds1, p1, q1, rfl, rfl, rfl, h1, r1⟩ := trodAll_cons r0
  obtain ⟨v2, vs2, d2, ds2, p2, q2, rfl, rfl, rfl, h2, r2⟩ := trodAll_cons r1
  obtain ⟨rfl, rfl, rfl⟩ := trodAll_nil r2
  obtain rfl : args = #[v0, v1, v2] := by cases args; simp_all
  obtain ⟨rfl, rfl⟩ := trodVars_none hV
  have k0 := h0
  have lt0 : ∀ x ∈ p0, x.block < W.heap.size := by obtain ⟨m, hm⟩ := k0; exact DataW.trod_lt m _ _ _ hm
  have k1 := h1
  have lt1 : ∀ x ∈ p1, x.block < W.heap.size := by obtain ⟨m, hm⟩ := k1; exact DataW.trod_lt m _ _ _ hm
  have k2 := h2
  have lt2 : ∀ x ∈ p2, x.block < W.heap.size := by obtain ⟨m, hm⟩ := k2; exact DataW.trod_lt m _ _ _ hm
  obtain ⟨a0, w0⟩ := open_words Try.underlying102 (hval 0 102 v0 rfl rfl) h0
  obtain ⟨a1, w1⟩ := open_words Try.underlying102 (hval 1 102 v1 rfl rfl) h1
  obtain ⟨a2, rfl, rfl, rfl, w2⟩ := open_int Try.underlying43 (hval 2 43 v2 rfl rfl) h2
  clear hA0 hval0
  refine (tsums_walk W v0 a0 v1 a1 a2 w0 w1 w2).mono fun e W' ⟨he, bel⟩ => ?_
  subst he
  exact ⟨_, rfl, _, _, _, [], _, [], hW', trodAll_mk1 (shut_bool Try.underlying4 _), (trodAll_cons_mk (Below.trod laidOut (by kernel_rfl) (of_decide_eq_true (by kernel_rfl)) k0 bel lt0) (trodAll_cons_mk (Below.trod laidOut (by kernel_rfl) (of_decide_eq_true (by kernel_rfl)) k1 bel lt1) (trodAll_cons_mk (Below.trod laidOut (by kernel_rfl) (of_decide_eq_true (by kernel_rfl)) k2 bel lt2) trodAll_mk0))), rfl, bel.frame _, fun h => by cases h⟩
theorem targetSums_over : Rows.targetSumsRow.holds Try.pinned (OpenSpec.ofChange Rows.targetSumsSpec) :=
  OpenClaim.holds_of_wide 18 Try.f18 rfl rfl rfl rfl rfl rfl rfl ⟨rfl, rfl, rfl, rfl, rfl⟩ rfl rfl rfl rfl rfl (by kernel_rfl) Try.func18 targetSums_joined
    (of_decide_eq_true (by kernel_rfl)) (by unfold Func.isWrapper; first | (rw [if_pos (by decide +kernel)]; kernel_rfl) | (rw [if_neg (by decide +kernel)]; exact ⟨rfl, rfl⟩))
    (fun os started H enc _ => targetSums_lifted os started H enc)
/-- The statement. -/
theorem targetSums_proved : Rows.TargetSumsSaid := targetSums_over
#print axioms targetSums_proved
end Go.Proofs.Ytkgjgdeaclefiaa
