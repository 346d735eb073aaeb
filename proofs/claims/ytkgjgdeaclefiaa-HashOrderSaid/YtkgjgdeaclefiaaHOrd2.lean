/-
  florinlaw03.HashOrder: for any three hashes the law answers true.
-/
import Derived.Test.YtkgjgdeaclefiaaHOrd
import Derived.Test.YtkgjgdeaclefiaaLft
namespace Go.Proofs.Ytkgjgdeaclefiaa
open Go Go.Proofs Go.RowKit Go.Flo

theorem cmpV (m n : Nat) : (m < n ∧ cmpI m n = -1) ∨ (m = n ∧ cmpI m n = 0) ∨ (n < m ∧ cmpI m n = 1) := by
  unfold cmpI
  by_cases h : m < n
  · exact .inl ⟨h, if_pos h⟩
  · by_cases h2 : n < m
    · exact .inr (.inr ⟨h2, by rw [if_neg h, if_pos h2]⟩)
    · exact .inr (.inl ⟨by omega, by rw [if_neg h, if_neg h2]⟩)
theorem txt_ne {k l : List UInt8} (hk : k.length = 32) (hl : l.length = 32) (h : k ≠ l) : ((strOf (txtI k)).toList == (strOf (txtI l)).toList) = false := by
  rw [beq_eq_false_iff_ne]
  intro he
  apply h
  have h1 := parse_txtS hk
  have h2 := parse_txtS hl
  have e : (txtS k) = (txtS l) := by
    have h3 : ∀ b : ByteArray, b.toList = b.data.toList := fun b => ByteArray.toList_eq b
    rw [h3, h3] at he
    exact ByteArray.ext (Array.ext' he)
  rw [e, h2] at h1
  exact (congrArg Prod.fst h1).symm
theorem horder_walk (w0 : World) (k l m : List UInt8) (hk : k.length = 32) (hl : l.length = 32) (hm : m.length = 32) :
    Calls Try.prog 19 #[.agg (bA k), .agg (bA l), .agg (bA m)] w0 fun e w' => e = .returned (.bool true) ∧ Below w0.heap.size w0 w' := by
  have P3 : Gives 92 #[.agg (bA l), .agg (bA m)] (.int .i64 (cmpI (beN l.reverse) (beN m.reverse))) := fun w => hcmp_c l m hl hm w
  by_cases he : k = l
  · subst he
    have P1 : Gives 92 #[.agg (bA k), .agg (bA k)] (.int .i64 0) := fun w => by
      have := hcmp_c k k hk hk w
      rcases cmpV (beN k.reverse) (beN k.reverse) with h | h | h
      · omega
      · rw [h.2] at this; exact this
      · omega
    refine horder_eq k m (dblV (k ++ k)) hk hm (dblV_length _) _ _ w0 P1 P3 (fun w => pair_main k k hk hk w) (fun w => htext_c k hk w) ?_
    rcases cmpV (beN k.reverse) (beN m.reverse) with h | h | h
    · rw [h.2]; exact .inr ⟨rfl, rfl⟩
    · rw [h.2]; exact .inr ⟨rfl, rfl⟩
    · rw [h.2]; exact .inl rfl
  · have hne : (k == l) = false := beq_eq_false_iff_ne.2 he
    have hb : beN k.reverse ≠ beN l.reverse := fun e => he (by
      have := beN_inj (by rw [List.length_reverse, List.length_reverse, hk, hl]) e
      exact List.reverse_inj.1 this)
    refine horder_ne k l m hk hl hm hne _ _ _ _ _ _ w0 (fun w => hcmp_c k l hk hl w) (fun w => hcmp_c l k hl hk w) P3 (fun w => hcmp_c k m hk hm w) (fun w => htext_c k hk w) (fun w => htext_c l hl w) (txt_ne hk hl he) ?_
    rcases cmpV (beN k.reverse) (beN l.reverse) with h | h | h
    · rcases cmpV (beN l.reverse) (beN k.reverse) with g | g | g
      · omega
      · omega
      · rw [h.2, g.2]
        rcases cmpV (beN l.reverse) (beN m.reverse) with a | a | a
        · rcases cmpV (beN k.reverse) (beN m.reverse) with b | b | b
          · rw [a.2, b.2]; exact .inr (.inr ⟨rfl, rfl, rfl, rfl⟩)
          · omega
          · omega
        · rcases cmpV (beN k.reverse) (beN m.reverse) with b | b | b
          · rw [a.2, b.2]; exact .inr (.inr ⟨rfl, rfl, rfl, rfl⟩)
          · omega
          · omega
        · rw [a.2]; exact .inr (.inl ⟨rfl, rfl, rfl⟩)
    · exact absurd h.1 hb
    · rcases cmpV (beN l.reverse) (beN k.reverse) with g | g | g
      · rw [h.2, g.2]; exact .inl ⟨rfl, rfl⟩
      · omega
      · omega

open Go.ChangeShapes Go.WideShapes Go.ChangeAt
theorem hashOrder_joined : joinedFacts Try.pinned.checked.prog 19 Try.f19 Rows.hashOrderSpec Rows.hashOrderRow = true := and_mk (and_mk (and_mk (and_mk (and_mk (and_mk (and_mk (and_mk (and_mk (and_mk (and_mk (and_mk (and_mk (and_mk (and_mk (and_mk (and_mk (and_mk (and_mk (and_mk (and_mk (and_mk (and_mk (and_mk (and_mk (and_mk (and_mk (and_mk (and_mk (and_mk (and_mk (by as_aux_lemma => kernel_rfl) laidOut) pf_maps) (by as_aux_lemma => kernel_rfl)) (by as_aux_lemma => kernel_rfl)) (by as_aux_lemma => kernel_rfl)) pf_stops) (by as_aux_lemma => kernel_rfl)) pf_knobs) (by as_aux_lemma => kernel_rfl)) (by as_aux_lemma => kernel_rfl)) (by as_aux_lemma => kernel_rfl)) (by as_aux_lemma => kernel_rfl)) (by as_aux_lemma => kernel_rfl)) (by as_aux_lemma => kernel_rfl)) (by as_aux_lemma => kernel_rfl)) (by as_aux_lemma => kernel_rfl)) (by as_aux_lemma => kernel_rfl)) (by as_aux_lemma => kernel_rfl)) (by as_aux_lemma => kernel_rfl)) (by as_aux_lemma => kernel_rfl)) (by as_aux_lemma => kernel_rfl)) pf_plain) (by as_aux_lemma => kernel_rfl)) pf_heard) pf_enter) pf_lifts) pf_make) (by as_aux_lemma => kernel_rfl)) (by as_aux_lemma => kernel_rfl)) (by as_aux_lemma => kernel_rfl)) (by as_aux_lemma => kernel_rfl)
set_option maxRecDepth 100000 in
theorem hashOrder_lifted (os : Os) (started : os.Started) (H : Type) (enc : TypeId × Value → H) :
    ReturnsInHanded {} Try.checked os 19 .any (Rows.hashOrderSpec.pre6 enc Try.prog Try.f19 Rows.hashOrderRow.domain false) (Rows.hashOrderSpec.post enc Try.prog Try.f19 false true false false) := by
  refine returnsInHanded_of_change (C := Try.checked) own started (by kernel_rfl) Try.func19
    (ChangeSpec.witness6 (enc := enc) (C := Try.checked) false ⟨#[], #[.agg (Array.replicate 32 (.int .u8 0)), .agg (Array.replicate 32 (.int .u8 0)), .agg (Array.replicate 32 (.int .u8 0))], []⟩ 8 (by kernel_rfl) (by kernel_rfl) (by kernel_rfl) (by kernel_rfl)) ?_
  intro W base args ds gs before hval0 hW hcnd _
  have hval : ∀ (j : Nat) t v, Try.f19.params[j]? = some t → args[j]? = some v → Value.okWide Try.prog W .any base t v := hval0
  have hW' := hW
  obtain ⟨p, q, hA0, hV, rfl, hfz, hnd⟩ := hW
  have hA : DataW.TrodAll enc Try.prog W 0 (fun _ => true) true Try.f19.params.toList args.toList ds p := hA0
  rw [Try.params19] at hA hval
  obtain ⟨v0, vs0, d0, ds0, p0, q0, hargs, rfl, rfl, h0, r0⟩ := trodAll_cons hA
  obtain ⟨v1, vs1, d1, ds1, p1, q1, rfl, rfl, rfl, h1, r1⟩ := trodAll_cons r0
  obtain ⟨v2, vs2, d2, ds2, p2, q2, rfl, rfl, rfl, h2, r2⟩ := trodAll_cons r1
  obtain ⟨rfl, rfl, rfl⟩ := trodAll_nil r2
  obtain rfl : args = #[v0, v1, v2] := by cases args; simp_all
  obtain ⟨rfl, rfl⟩ := trodVars_none hV
  have k0 := h0
  have lt0 : ∀ x ∈ p0, x.block < W.heap.size := by obtain ⟨m, hm⟩ := k0; exact DataW.trod_lt m _ _ _ hm
  have k1 := h1
  have lt1 : ∀ x ∈ p1, x.block < W.heap.size := by obtain ⟨m, hm⟩ := k1; exact DataW.trod_lt m _ _ _ hm
  have k2 := h2
  have lt2 : ∀ x ∈ p2, x.block < W.heap.size := by obtain ⟨m, hm⟩ := k2; exact DataW.trod_lt m _ _ _ hm
  obtain ⟨a0, w0, rfl⟩ := open_hash Try.underlying23 (by kernel_rfl) (hval 0 23 v0 rfl rfl) h0
  obtain ⟨a1, w1, rfl⟩ := open_hash Try.underlying23 (by kernel_rfl) (hval 1 23 v1 rfl rfl) h1
  obtain ⟨a2, w2, rfl⟩ := open_hash Try.underlying23 (by kernel_rfl) (hval 2 23 v2 rfl rfl) h2
  clear hA0 hval0
  refine (horder_walk W a0 a1 a2 w0 w1 w2).mono fun e W' ⟨he, bel⟩ => ?_
  subst he
  exact ⟨_, rfl, _, _, _, [], _, [], hW', trodAll_mk1 (shut_bool Try.underlying4 _), (trodAll_cons_mk (Below.trod laidOut (by kernel_rfl) (of_decide_eq_true (by kernel_rfl)) k0 bel lt0) (trodAll_cons_mk (Below.trod laidOut (by kernel_rfl) (of_decide_eq_true (by kernel_rfl)) k1 bel lt1) (trodAll_cons_mk (Below.trod laidOut (by kernel_rfl) (of_decide_eq_true (by kernel_rfl)) k2 bel lt2) trodAll_mk0))), rfl, bel.frame _, fun h => by cases h⟩
theorem hashOrder_over : Rows.hashOrderRow.holds Try.pinned (OpenSpec.ofChange Rows.hashOrderSpec) :=
  OpenClaim.holds_of_wide 19 Try.f19 rfl rfl rfl rfl rfl rfl rfl ⟨rfl, rfl, rfl, rfl, rfl⟩ rfl rfl rfl rfl rfl (by kernel_rfl) Try.func19 hashOrder_joined
    (of_decide_eq_true (by kernel_rfl)) (by unfold Func.isWrapper; first | (rw [if_pos (by decide +kernel)]; kernel_rfl) | (rw [if_neg (by decide +kernel)]; exact ⟨rfl, rfl⟩))
    (fun os started H enc _ => hashOrder_lifted os started H enc)
/-- The statement. -/
theorem hashOrder_proved : Rows.HashOrderSaid := hashOrder_over
#print axioms hashOrder_proved
end Go.Proofs.Ytkgjgdeaclefiaa
