/-
  florinlaw03.HashNone: for any two texts the law answers true.
-/
import Derived.Test.YtkgjgdeaclefiaaWit
import Derived.Test.YtkgjgdeaclefiaaLft
namespace Go.Proofs.Ytkgjgdeaclefiaa
open Go Go.Proofs Go.RowKit Go.Flo

theorem hnone_walk (w0 : World) (v0 : Value) (l : List UInt8) (v1 : Value) (k : List UInt8) (h0 : Rd8 w0 v0 l) (h1 : Rd8 w0 v1 k) :
    Calls Try.prog 14 #[v0, v1] w0 fun e w' => e = .returned (.bool true) ∧ Below w0.heap.size w0 w' := by
  by_cases hl : 200 < l.length
  · exact hnone_short v0 v1 l.length k.length w0 h0.shape h1.shape (.inl hl)
  by_cases hk : 200 < k.length
  · exact hnone_short v0 v1 l.length k.length w0 h0.shape h1.shape (.inr ⟨hl, hk⟩)
  refine hnone_main v0 v1 l.length k.length (witB l k) w0 h0.shape h1.shape (by omega) (by omega) (fun w hb => ?_) (fun w hb => ?_) (fun w hb => ?_)
  · have := witness_c v0 v0 l l (by omega) (by omega) w (h0.below hb) (h0.below hb)
    rw [witB_self] at this
    exact this
  · exact witness_c v0 v1 l k (by omega) (by omega) w (h0.below hb) (h1.below hb)
  · have := witness_c v1 v0 k l (by omega) (by omega) w (h1.below hb) (h0.below hb)
    rw [witB_comm] at this
    exact this

open Go.ChangeShapes Go.WideShapes Go.ChangeAt
theorem hashNone_joined : joinedFacts Try.pinned.checked.prog 14 Try.f14 Rows.hashNoneSpec Rows.hashNoneRow = true := and_mk (and_mk (and_mk (and_mk (and_mk (and_mk (and_mk (and_mk (and_mk (and_mk (and_mk (and_mk (and_mk (and_mk (and_mk (and_mk (and_mk (and_mk (and_mk (and_mk (and_mk (and_mk (and_mk (and_mk (and_mk (and_mk (and_mk (and_mk (and_mk (and_mk (and_mk (by as_aux_lemma => kernel_rfl) laidOut) pf_maps) (by as_aux_lemma => kernel_rfl)) (by as_aux_lemma => kernel_rfl)) (by as_aux_lemma => kernel_rfl)) pf_stops) (by as_aux_lemma => kernel_rfl)) pf_knobs) (by as_aux_lemma => kernel_rfl)) (by as_aux_lemma => kernel_rfl)) (by as_aux_lemma => kernel_rfl)) (by as_aux_lemma => kernel_rfl)) (by as_aux_lemma => kernel_rfl)) (by as_aux_lemma => kernel_rfl)) (by as_aux_lemma => kernel_rfl)) (by as_aux_lemma => kernel_rfl)) (by as_aux_lemma => kernel_rfl)) (by as_aux_lemma => kernel_rfl)) (by as_aux_lemma => kernel_rfl)) (by as_aux_lemma => kernel_rfl)) (by as_aux_lemma => kernel_rfl)) pf_plain) (by as_aux_lemma => kernel_rfl)) pf_heard) pf_enter) pf_lifts) pf_make) (by as_aux_lemma => kernel_rfl)) (by as_aux_lemma => kernel_rfl)) (by as_aux_lemma => kernel_rfl)) (by as_aux_lemma => kernel_rfl)
set_option maxRecDepth 100000 in
theorem hashNone_lifted (os : Os) (started : os.Started) (H : Type) (enc : TypeId × Value → H) :
    ReturnsInHanded {} Try.checked os 14 .any (Rows.hashNoneSpec.pre6 enc Try.prog Try.f14 Rows.hashNoneRow.domain false) (Rows.hashNoneSpec.post enc Try.prog Try.f14 false true false false) := by
  refine returnsInHanded_of_change (C := Try.checked) own started (by kernel_rfl) Try.func14
    (ChangeSpec.witness6 (enc := enc) (C := Try.checked) false ⟨#[], #[.slice none 0 0, .slice none 0 0], []⟩ 8 (by kernel_rfl) (by kernel_rfl) (by kernel_rfl) (by kernel_rfl)) ?_
  intro W base args ds gs before hval0 hW hcnd _
  have hval : ∀ (j : Nat) t v, Try.f14.params[j]? = some t → args[j]? = some v → Value.okWide Try.prog W .any base t v := hval0
  have hW' := hW
  obtain ⟨p, q, hA0, hV, rfl, hfz, hnd⟩ := hW
  have hA : DataW.TrodAll enc Try.prog W 0 (fun _ => true) true Try.f14.params.toList args.toList ds p := hA0
  rw [Try.params14] at hA hval
  obtain ⟨v0, vs0, d0, ds0, p0, q0, hargs, rfl, rfl, h0, r0⟩ := trodAll_cons hA
  obtain ⟨v1, vs1, d1, ds1, p1, q1, rfl, rfl, rfl, h1, r1⟩ := trodAll_cons r0
  obtain ⟨rfl, rfl, rfl⟩ := trodAll_nil r1
  obtain rfl : args = #[v0, v1] := by cases args; simp_all
  obtain ⟨rfl, rfl⟩ := trodVars_none hV
  have k0 := h0
  have lt0 : ∀ x ∈ p0, x.block < W.heap.size := by obtain ⟨m, hm⟩ := k0; exact DataW.trod_lt m _ _ _ hm
  have k1 := h1
  have lt1 : ∀ x ∈ p1, x.block < W.heap.size := by obtain ⟨m, hm⟩ := k1; exact DataW.trod_lt m _ _ _ hm
  obtain ⟨a0, w0⟩ := open_bytes Try.underlying42 (hval 0 42 v0 rfl rfl) h0
  obtain ⟨a1, w1⟩ := open_bytes Try.underlying42 (hval 1 42 v1 rfl rfl) h1
  clear hA0 hval0
  refine (hnone_walk W v0 a0 v1 a1 w0 w1).mono fun e W' ⟨he, bel⟩ => ?_
  subst he
  exact ⟨_, rfl, _, _, _, [], _, [], hW', trodAll_mk1 (shut_bool Try.underlying4 _), (trodAll_cons_mk (Below.trod laidOut (by kernel_rfl) (of_decide_eq_true (by kernel_rfl)) k0 bel lt0) (trodAll_cons_mk (Below.trod laidOut (by kernel_rfl) (of_decide_eq_true (by kernel_rfl)) k1 bel lt1) trodAll_mk0)), rfl, bel.frame _, fun h => by cases h⟩
theorem hashNone_over : Rows.hashNoneRow.holds Try.pinned (OpenSpec.ofChange Rows.hashNoneSpec) :=
  OpenClaim.holds_of_wide 14 Try.f14 rfl rfl rfl rfl rfl rfl rfl ⟨rfl, rfl, rfl, rfl, rfl⟩ rfl rfl rfl rfl rfl (by kernel_rfl) Try.func14 hashNone_joined
    (of_decide_eq_true (by kernel_rfl)) (by unfold Func.isWrapper; first | (rw [if_pos (by decide +kernel)]; kernel_rfl) | (rw [if_neg (by decide +kernel)]; exact ⟨rfl, rfl⟩))
    (fun os started H enc _ => hashNone_lifted os started H enc)
/-- The statement. -/
theorem hashNone_proved : Rows.HashNoneSaid := hashNone_over
#print axioms hashNone_proved
end Go.Proofs.Ytkgjgdeaclefiaa
