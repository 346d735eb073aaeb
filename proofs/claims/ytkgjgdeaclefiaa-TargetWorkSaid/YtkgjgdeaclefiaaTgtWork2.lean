/-
  florinlaw05.TargetWork: the plain law.
-/
import Derived.Test.YtkgjgdeaclefiaaTgtWork
namespace Go.Proofs.Ytkgjgdeaclefiaa
open Go Go.Proofs Go.RowKit Go.Flo

theorem work_bits {b : Nat} (h : badT b = false) : workN b = top / (rawT b + 1) ∧ rawT b ≠ 0 := by
  refine ⟨by unfold workN; rw [h]; rfl, ?_⟩
  unfold badT at h
  simp only [Bool.or_eq_false_iff, decide_eq_false_iff_not] at h
  exact h.2.1
theorem work_lt (b : Nat) : workN b < top := by
  have hT := top_24
  unfold workN
  split
  · omega
  · exact Nat.lt_of_le_of_ne (Nat.div_le_self _ _) fun e => by
      have hb : badT b = false := by cases hc : badT b with | false => rfl | true => contradiction
      have := (work_bits hb).2
      have h2 : top / (rawT b + 1) < top := Nat.div_lt_self (by omega) (by omega)
      omega
theorem work_bad0 {b : Nat} (h : badT b = true) : workN b = 0 := by unfold workN; rw [h]; rfl
theorem div_pred {o : Nat} (ho : 0 < o) (hp : 0 < top) : (top / o = (top - 1) / o) ∨ (top / o = (top - 1) / o + 1 ∧ (top - 1) % o + 1 = o) := by
  have h1 := Nat.div_add_mod top o
  have h2 := Nat.mod_lt top ho
  rcases Nat.eq_zero_or_pos (top % o) with h0 | h0
  · right
    have hv : 0 < top / o := by
      rcases Nat.eq_zero_or_pos (top / o) with e | e
      · rw [e, h0] at h1; omega
      · exact e
    obtain ⟨k, hk⟩ : ∃ k, top / o = k + 1 := ⟨top / o - 1, by omega⟩
    rw [hk, h0, Nat.mul_succ] at h1
    have e : top - 1 = o - 1 + o * k := by omega
    have e1 : (top - 1) / o = k := by rw [e, Nat.add_mul_div_left _ _ ho, Nat.div_eq_of_lt (by omega), Nat.zero_add]
    have e2 : (top - 1) % o = o - 1 := by rw [e, Nat.add_mul_mod_self_left, Nat.mod_eq_of_lt (by omega)]
    exact ⟨by rw [hk, e1], by omega⟩
  · left
    have e : top - 1 = (top % o - 1) + o * (top / o) := by omega
    have e1 : (top - 1) / o = top / o := by rw [e, Nat.add_mul_div_left _ _ ho, Nat.div_eq_of_lt (a := top % o - 1) (b := o) (by omega), Nat.zero_add]
    exact e1.symm
theorem not0_c : Gives 37 #[.agg #[.int .u64 0, .int .u64 0, .int .u64 0, .int .u64 0]] (uV (top - 1)) := not_zero_c

theorem twork_walk (w0 : World) (a b : Nat) (ha : a < 4294967296) (hb : b < 4294967296) :
    Calls Try.prog 17 #[.int .u32 (a : Int), .int .u32 (b : Int)] w0 fun e w' => e = .returned (.bool true) ∧ Below w0.heap.size w0 w' := by
  have hT := top_24
  have X1 := expand_c a ha
  have X2 := expand_c b hb
  have W1 := work_c a ha
  have W2 := work_c b hb
  cases hbd : badT a with
  | true =>
    rw [expandN_bad hbd] at X1
    rw [work_bad0 hbd] at W1
    exact twork_bad a b _ _ _ w0 (by rw [isZ_eq (by omega)]; rfl) X1 X2 W1 W2
  | false =>
    obtain ⟨e1, hne⟩ := work_bits hbd
    have h1 := rawT_odd hbd
    have hv0 : workN a ≠ 0 := by
      rw [e1]
      have := (Nat.le_div_iff_mul_le (show 0 < rawT a + 1 by omega)).2 (show 1 * (rawT a + 1) ≤ top by omega)
      omega
    rw [expandN_of hbd] at X1
    have A1 := add_c (rawT a) 1 (by omega) (by omega)
    rw [Nat.mod_eq_of_lt h1, decide_eq_false (by omega)] at A1
    have D1 := div_c (top - 1) (rawT a + 1) (by omega) h1
    rw [if_neg (by omega), if_neg (by omega), decide_eq_true (by omega)] at D1
    have hq : (top - 1) / (rawT a + 1) < top := Nat.lt_of_le_of_lt (Nat.div_le_self _ _) (by omega)
    have hr : (top - 1) % (rawT a + 1) < rawT a + 1 := Nat.mod_lt _ (by omega)
    have A2 := add_c ((top - 1) / (rawT a + 1)) 1 hq (by omega)
    have A3 := add_c ((top - 1) % (rawT a + 1)) 1 (by omega) (by omega)
    have hlt := work_lt a
    have C2 := cmp_c (workN a) (workN b) hlt (work_lt b)
    have C1 := cmp_c (rawT a) (expandN b).1 (by omega) (expandN_lt b hT)
    refine twork_main a b (rawT a) _ (workN a) _ (rawT a + 1) _ _ _ _ _ _ _ _ _ w0 (by rw [isZ_eq hlt, decide_eq_false hv0]) X1 X2 W1 W2 (of_lit 1 (by decide)) A1 not0_c D1 A2 A3 C1 C2 ?_ ?_
    · rw [e1]
      rw [e1] at hlt
      rcases div_pred (o := rawT a + 1) (by omega) (by omega) with h | ⟨h, hm⟩
      · exact .inl h
      · refine .inr ⟨eqU_ne hlt hq (by omega), ?_, ?_⟩
        · rw [← h, Nat.mod_eq_of_lt hlt]
        · rw [hm, Nat.mod_eq_of_lt h1]
    · cases hbb : badT b with
      | true => rw [expandN_bad hbb]; exact .inl rfl
      | false =>
        rw [expandN_of hbb]
        refine .inr ⟨rfl, ?_⟩
        obtain ⟨e2, _⟩ := work_bits hbb
        unfold cmpI
        rcases Nat.lt_or_ge (rawT b) (rawT a) with h | h
        · exact .inl (by rw [if_neg (by omega), if_pos h]; rfl)
        · refine .inr ⟨?_, ?_⟩
          · split
            · rfl
            · rw [if_neg (by omega)]; rfl
          · have hle : workN b ≤ workN a := by
              rw [e1, e2]
              exact Nat.div_le_div_left (by omega) (by omega)
            rw [if_neg (by omega)]
            split <;> rfl

theorem u32_of_wf {x : Int} (h : (Lit.int .u32 x).wf = true) : ∃ n : Nat, x = (n : Int) ∧ n < 4294967296 := by
  simp [Lit.wf, IntKind.min, IntKind.max, IntKind.signed, IntKind.bits] at h
  exact ⟨x.toNat, by omega, by omega⟩
theorem twork_walk' (w0 : World) (a b : Int) (ha : (Lit.int .u32 a).wf = true) (hb : (Lit.int .u32 b).wf = true) :
    Calls Try.prog 17 #[.int .u32 a, .int .u32 b] w0 fun e w' => e = .returned (.bool true) ∧ Below w0.heap.size w0 w' := by
  obtain ⟨m, rfl, hm⟩ := u32_of_wf ha
  obtain ⟨n, rfl, hn⟩ := u32_of_wf hb
  exact twork_walk w0 m n hm hn

open Go.ChangeShapes Go.WideShapes Go.ChangeAt
theorem targetWork_joined : joinedFacts Try.pinned.checked.prog 17 Try.f17 Rows.targetWorkSpec Rows.targetWorkRow = true := and_mk (and_mk (and_mk (and_mk (and_mk (and_mk (and_mk (and_mk (and_mk (and_mk (and_mk (and_mk (and_mk (and_mk (and_mk (and_mk (and_mk (and_mk (and_mk (and_mk (and_mk (and_mk (and_mk (and_mk (and_mk (and_mk (and_mk (and_mk (and_mk (and_mk (and_mk (by as_aux_lemma => kernel_rfl) laidOut) pf_maps) (by as_aux_lemma => kernel_rfl)) (by as_aux_lemma => kernel_rfl)) (by as_aux_lemma => kernel_rfl)) pf_stops) (by as_aux_lemma => kernel_rfl)) pf_knobs) (by as_aux_lemma => kernel_rfl)) (by as_aux_lemma => kernel_rfl)) (by as_aux_lemma => kernel_rfl)) (by as_aux_lemma => kernel_rfl)) (by as_aux_lemma => kernel_rfl)) (by as_aux_lemma => kernel_rfl)) (by as_aux_lemma => kernel_rfl)) (by as_aux_lemma => kernel_rfl)) (by as_aux_lemma => kernel_rfl)) (by as_aux_lemma => kernel_rfl)) (by as_aux_lemma => kernel_rfl)) (by as_aux_lemma => kernel_rfl)) (by as_aux_lemma => kernel_rfl)) pf_plain) (by as_aux_lemma => kernel_rfl)) pf_heard) pf_enter) pf_lifts) pf_make) (by as_aux_lemma => kernel_rfl)) (by as_aux_lemma => kernel_rfl)) (by as_aux_lemma => kernel_rfl)) (by as_aux_lemma => kernel_rfl)
set_option maxRecDepth 100000 in
theorem targetWork_lifted (os : Os) (started : os.Started) (H : Type) (enc : TypeId × Value → H) :
    ReturnsInHanded {} Try.checked os 17 .any (Rows.targetWorkSpec.pre6 enc Try.prog Try.f17 Rows.targetWorkRow.domain false) (Rows.targetWorkSpec.post enc Try.prog Try.f17 false true false false) := by
  refine returnsInHanded_of_change (C := Try.checked) own started (by kernel_rfl) Try.func17
    (ChangeSpec.witness6 (enc := enc) (C := Try.checked) false ⟨#[], #[.int .u32 0, .int .u32 0], []⟩ 8 (by kernel_rfl) (by kernel_rfl) (by kernel_rfl) (by kernel_rfl)) ?_
  intro W base args ds gs before hval0 hW hcnd _
  have hval : ∀ (j : Nat) t v, Try.f17.params[j]? = some t → args[j]? = some v → Value.okWide Try.prog W .any base t v := hval0
  have hW' := hW
  obtain ⟨p, q, hA0, hV, rfl, hfz, hnd⟩ := hW
  have hA : DataW.TrodAll enc Try.prog W 0 (fun _ => true) true Try.f17.params.toList args.toList ds p := hA0
  rw [Try.params17] at hA hval
  obtain ⟨v0, vs0, d0, ds0, p0, q0, hargs, rfl, rfl, h0, r0⟩ := trodAll_cons hA
  obtain ⟨v1, vs1, d1, ds1, p1, q1, rfl, rfl, rfl, h1, r1⟩ := trodAll_cons r0
  obtain ⟨rfl, rfl, rfl⟩ := trodAll_nil r1
  obtain rfl : args = #[v0, v1] := by cases args; simp_all
  obtain ⟨rfl, rfl⟩ := trodVars_none hV
  have k0 := h0
  have lt0 : ∀ x ∈ p0, x.block < W.heap.size := by obtain ⟨m, hm⟩ := k0; exact DataW.trod_lt m _ _ _ hm
  have k1 := h1
  have lt1 : ∀ x ∈ p1, x.block < W.heap.size := by obtain ⟨m, hm⟩ := k1; exact DataW.trod_lt m _ _ _ hm
  obtain ⟨a0, rfl, rfl, rfl, w0⟩ := open_int Try.underlying43 (hval 0 43 v0 rfl rfl) h0
  obtain ⟨a1, rfl, rfl, rfl, w1⟩ := open_int Try.underlying43 (hval 1 43 v1 rfl rfl) h1
  clear hA0 hval0
  refine (twork_walk' W a0 a1 w0 w1).mono fun e W' ⟨he, bel⟩ => ?_
  subst he
  exact ⟨_, rfl, _, _, _, [], _, [], hW', trodAll_mk1 (shut_bool Try.underlying4 _), (trodAll_cons_mk (Below.trod laidOut (by kernel_rfl) (of_decide_eq_true (by kernel_rfl)) k0 bel lt0) (trodAll_cons_mk (Below.trod laidOut (by kernel_rfl) (of_decide_eq_true (by kernel_rfl)) k1 bel lt1) trodAll_mk0)), rfl, bel.frame _, fun h => by cases h⟩
theorem targetWork_over : Rows.targetWorkRow.holds Try.pinned (OpenSpec.ofChange Rows.targetWorkSpec) :=
  OpenClaim.holds_of_wide 17 Try.f17 rfl rfl rfl rfl rfl rfl rfl ⟨rfl, rfl, rfl, rfl, rfl⟩ rfl rfl rfl rfl rfl (by kernel_rfl) Try.func17 targetWork_joined
    (of_decide_eq_true (by kernel_rfl)) (by unfold Func.isWrapper; first | (rw [if_pos (by decide +kernel)]; kernel_rfl) | (rw [if_neg (by decide +kernel)]; exact ⟨rfl, rfl⟩))
    (fun os started H enc _ => targetWork_lifted os started H enc)
/-- The statement. -/
theorem targetWork_proved : Rows.TargetWorkSaid := targetWork_over
#print axioms targetWork_proved
end Go.Proofs.Ytkgjgdeaclefiaa
