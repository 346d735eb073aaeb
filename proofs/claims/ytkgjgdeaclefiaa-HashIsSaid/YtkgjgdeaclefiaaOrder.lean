/-
  The law U256Order.
-/
import Derived.Test.YtkgjgdeaclefiaaUa
import Derived.Test.YtkgjgdeaclefiaaLft
namespace Go.Proofs.Ytkgjgdeaclefiaa
open Go Go.Proofs Go.RowKit Go.Flo

/-! ### The plain law -/
theorem cmpI_neg_iff (m n : Nat) : cmpI m n < 0 ↔ m < n := by
  rcases Nat.lt_trichotomy m n with h | h | h
  · rw [cmpI_lt h]; exact ⟨fun _ => h, fun _ => by decide⟩
  · subst h; rw [cmpI_eq]; exact ⟨fun h => by simp at h, fun h => by omega⟩
  · rw [cmpI_gt h]; exact ⟨fun h => by simp at h, fun h => by omega⟩
theorem cmpI_pos_iff (m n : Nat) : 0 < cmpI m n ↔ n < m := by
  rcases Nat.lt_trichotomy m n with h | h | h
  · rw [cmpI_lt h]; exact ⟨fun h => by simp at h, fun h => by omega⟩
  · subst h; rw [cmpI_eq]; exact ⟨fun h => by simp at h, fun h => by omega⟩
  · rw [cmpI_gt h]; exact ⟨fun _ => h, fun _ => by decide⟩
theorem cmpI_swap (m n : Nat) : cmpI n m = - cmpI m n := by
  rcases Nat.lt_trichotomy m n with h | h | h
  · rw [cmpI_lt h, cmpI_gt h]; rfl
  · subst h; rw [cmpI_eq]; rfl
  · rw [cmpI_lt h, cmpI_gt h]
theorem cmpI_small (m n : Nat) : cmpI m n = -1 ∨ cmpI m n = 0 ∨ cmpI m n = 1 := by
  rcases Nat.lt_trichotomy m n with h | h | h
  · exact .inl (cmpI_lt h)
  · subst h; exact .inr (.inl (cmpI_eq _))
  · exact .inr (.inr (cmpI_gt h))
theorem sum_lost {T m n : Nat} (hm : m < T) (hn : n < T) : (m + n) % T < m ↔ T ≤ m + n := by
  rcases Nat.lt_or_ge (m + n) T with h | h
  · rw [Nat.mod_eq_of_lt h]; omega
  · rw [Nat.mod_eq_sub_mod h, Nat.mod_eq_of_lt (by omega)]; omega
theorem sum_lost' {T m n : Nat} (hm : m < T) (hn : n < T) : (m + n) % T < n ↔ T ≤ m + n := by rw [Nat.add_comm m n, sum_lost hn hm]
theorem sum_back {T m n : Nat} (hm : m < T) (hn : n < T) : ((m + n) % T + T - n) % T = m := by
  rcases Nat.lt_or_ge (m + n) T with h | h
  · rw [Nat.mod_eq_of_lt h, show m + n + T - n = m + T by omega, Nat.add_mod_right, Nat.mod_eq_of_lt hm]
  · have e : (m + n) % T = m + n - T := by rw [Nat.mod_eq_sub_mod h, Nat.mod_eq_of_lt (by omega)]
    rw [e, show m + n - T + T - n = m by omega, Nat.mod_eq_of_lt hm]
theorem dif_back {T m n : Nat} (hm : m < T) (hn : n < T) : ((m + T - n) % T + n) % T = m := by
  rw [Nat.mod_add_mod, show m + T - n + n = m + T by omega, Nat.add_mod_right, Nat.mod_eq_of_lt hm]
theorem order_walk (m n k : Nat) (hm : m < top) (hn : n < top) (hk : k < top) (w0 : World) :
    Calls Try.prog 4 #[uV m, uV n, uV k] w0 fun e w' => e = .returned (.bool true) ∧ Below w0.heap.size w0 w' := by
  have hT : 0 < top := Nat.lt_of_le_of_lt (Nat.zero_le _) hm
  have hs : (m + n) % top < top := Nat.mod_lt _ hT
  have ht : (m + top - n) % top < top := Nat.mod_lt _ hT
  have e1 : decide (top ≤ m + n) = decide (cmpI ((m + n) % top) m < 0) := by rw [decide_eq_decide, cmpI_neg_iff, sum_lost hm hn]
  have e2 : decide ((m + n) % top < n) = decide (cmpI ((m + n) % top) m < 0) := by rw [decide_eq_decide, cmpI_neg_iff, sum_lost hm hn, sum_lost' hm hn]
  have e3 : decide (m < n) = decide (cmpI m n < 0) := by rw [decide_eq_decide, cmpI_neg_iff]
  have e4 : (m + (top - 1 - m)) % top = top - 1 - 0 := by rw [show m + (top - 1 - m) = top - 1 by omega, Nat.mod_eq_of_lt (by omega)]; rfl
  refine order_main m n k ((m + n) % top) ((m + top - n) % top) (top - 1 - m) (top - 1 - 0) (decide (cmpI ((m + n) % top) m < 0)) (decide (cmpI m n < 0)) (decide (top ≤ (m + top - n) % top + n)) (decide (top ≤ m + (top - 1 - m))) (cmpI ((m + n) % top) m) (cmpI m n) (cmpI n m) (cmpI n k) (cmpI m k)
    (fun w => ?_) (fun w => ?_) (fun w => ?_) (fun w => ?_) (fun w => ?_) (fun w => ?_) (fun w => ?_) (fun w => ?_) (fun w => ?_) (fun w => ?_) (fun w => ?_) (fun w => ?_) (fun w => ?_) rfl rfl ?_ ?_ w0
  · rw [← e1]; exact add_c m n hm hn w
  · rw [← e1, Nat.add_comm m n]; exact add_c n m hn hm w
  · have := sub_c _ n hs hn w
    rw [sum_back hm hn, e2] at this
    exact this
  · rw [← e3]; exact sub_c m n hm hn w
  · have := add_c _ n ht hn w
    rw [dif_back hm hn] at this
    exact this
  · exact not_c m hm w
  · have := add_c m (top - 1 - m) hm (by omega) w
    rw [e4] at this
    exact this
  · exact cmp_c _ m hs hm w
  · exact cmp_c m n hm hn w
  · exact cmp_c n m hn hm w
  · exact cmp_c n k hn hk w
  · exact cmp_c m k hm hk w
  · rw [uV_zero]; exact not_c 0 hT w
  · rw [cmpI_swap n m]
    rcases cmpI_small n m with h | h | h <;> rw [h] <;> decide +kernel
  · rcases Nat.lt_or_ge n m with h | h
    · exact .inl (decide_eq_true ((cmpI_pos_iff _ _).2 h))
    · rcases Nat.lt_or_ge k n with h' | h'
      · exact .inr (.inl ⟨decide_eq_false (fun h1 => by rw [cmpI_pos_iff] at h1; omega), decide_eq_true ((cmpI_pos_iff _ _).2 h')⟩)
      · refine .inr (.inr ⟨decide_eq_false (fun h1 => by rw [cmpI_pos_iff] at h1; omega), decide_eq_false (fun h1 => by rw [cmpI_pos_iff] at h1; omega), decide_eq_true ?_⟩)
        have : ¬ 0 < cmpI m k := fun h1 => by rw [cmpI_pos_iff] at h1; omega
        omega

/-! ### The row -/
open Go.ChangeShapes Go.WideShapes Go.ChangeAt
theorem u256Order_joined : joinedFacts Try.pinned.checked.prog 4 Try.f4 Rows.u256OrderSpec Rows.u256OrderRow = true := and_mk (and_mk (and_mk (and_mk (and_mk (and_mk (and_mk (and_mk (and_mk (and_mk (and_mk (and_mk (and_mk (and_mk (and_mk (and_mk (and_mk (and_mk (and_mk (and_mk (and_mk (and_mk (and_mk (and_mk (and_mk (and_mk (and_mk (and_mk (and_mk (and_mk (and_mk (by as_aux_lemma => kernel_rfl) laidOut) pf_maps) (by as_aux_lemma => kernel_rfl)) (by as_aux_lemma => kernel_rfl)) (by as_aux_lemma => kernel_rfl)) pf_stops) (by as_aux_lemma => kernel_rfl)) pf_knobs) (by as_aux_lemma => kernel_rfl)) (by as_aux_lemma => kernel_rfl)) (by as_aux_lemma => kernel_rfl)) (by as_aux_lemma => kernel_rfl)) (by as_aux_lemma => kernel_rfl)) (by as_aux_lemma => kernel_rfl)) (by as_aux_lemma => kernel_rfl)) (by as_aux_lemma => kernel_rfl)) (by as_aux_lemma => kernel_rfl)) (by as_aux_lemma => kernel_rfl)) (by as_aux_lemma => kernel_rfl)) (by as_aux_lemma => kernel_rfl)) (by as_aux_lemma => kernel_rfl)) pf_plain) (by as_aux_lemma => kernel_rfl)) pf_heard) pf_enter) pf_lifts) pf_make) (by as_aux_lemma => kernel_rfl)) (by as_aux_lemma => kernel_rfl)) (by as_aux_lemma => kernel_rfl)) (by as_aux_lemma => kernel_rfl)
set_option maxRecDepth 100000 in
theorem u256Order_lifted (os : Os) (started : os.Started) (H : Type) (enc : TypeId × Value → H) :
    ReturnsInHanded {} Try.checked os 4 .any (Rows.u256OrderSpec.pre6 enc Try.prog Try.f4 Rows.u256OrderRow.domain false) (Rows.u256OrderSpec.post enc Try.prog Try.f4 false true false false) := by
  refine returnsInHanded_of_change (C := Try.checked) own started (by kernel_rfl) Try.func4
    (ChangeSpec.witness6 (enc := enc) (C := Try.checked) false ⟨#[], #[.agg #[.int .u64 0, .int .u64 0, .int .u64 0, .int .u64 0], .agg #[.int .u64 0, .int .u64 0, .int .u64 0, .int .u64 0], .agg #[.int .u64 0, .int .u64 0, .int .u64 0, .int .u64 0]], []⟩ 8 (by kernel_rfl) (by kernel_rfl) (by kernel_rfl) (by kernel_rfl)) ?_
  intro W base args ds gs before hval0 hW hcnd _
  have hval : ∀ (j : Nat) t v, Try.f4.params[j]? = some t → args[j]? = some v → Value.okWide Try.prog W .any base t v := hval0
  have hW' := hW
  obtain ⟨p, q, hA0, hV, rfl, hfz, hnd⟩ := hW
  have hA : DataW.TrodAll enc Try.prog W 0 (fun _ => true) true Try.f4.params.toList args.toList ds p := hA0
  rw [Try.params4] at hA hval
  obtain ⟨v0, vs0, d0, ds0, p0, q0, hargs, rfl, rfl, h0, r0⟩ := trodAll_cons hA
  obtain ⟨v1, vs1, d1, ds1, p1, q1, rfl, rfl, rfl, h1, r1⟩ := trodAll_cons r0
  obtain ⟨v2, vs2, d2, ds2, p2, q2, rfl, rfl, rfl, h2, r2⟩ := trodAll_cons r1
  obtain ⟨rfl, rfl, rfl⟩ := trodAll_nil r2
  obtain rfl : args = #[v0, v1, v2] := by cases args; simp_all
  obtain ⟨rfl, rfl⟩ := trodVars_none hV
  have k0 := h0
  have lt0 : ∀ x ∈ p0, x.block < W.heap.size := by obtain ⟨m, hm⟩ := k0; exact DataW.trod_lt m _ _ _ hm
  have k1 := h1
  have lt1 : ∀ x ∈ p1, x.block < W.heap.size := by obtain ⟨m, hm⟩ := k1; exact DataW.trod_lt m _ _ _ hm
  have k2 := h2
  have lt2 : ∀ x ∈ p2, x.block < W.heap.size := by obtain ⟨m, hm⟩ := k2; exact DataW.trod_lt m _ _ _ hm
  obtain ⟨a0, w0, rfl⟩ := open_four Try.underlying35 (by kernel_rfl) (hval 0 35 v0 rfl rfl) h0
  obtain ⟨a1, w1, rfl⟩ := open_four Try.underlying35 (by kernel_rfl) (hval 1 35 v1 rfl rfl) h1
  obtain ⟨a2, w2, rfl⟩ := open_four Try.underlying35 (by kernel_rfl) (hval 2 35 v2 rfl rfl) h2
  clear hA0 hval0
  refine (order_walk a0 a1 a2 w0 w1 w2 W).mono fun e W' ⟨he, bel⟩ => ?_
  subst he
  exact ⟨_, rfl, _, _, _, [], _, [], hW', trodAll_mk1 (shut_bool Try.underlying4 _), (trodAll_cons_mk (Below.trod laidOut (by kernel_rfl) (of_decide_eq_true (by kernel_rfl)) k0 bel lt0) (trodAll_cons_mk (Below.trod laidOut (by kernel_rfl) (of_decide_eq_true (by kernel_rfl)) k1 bel lt1) (trodAll_cons_mk (Below.trod laidOut (by kernel_rfl) (of_decide_eq_true (by kernel_rfl)) k2 bel lt2) trodAll_mk0))), rfl, bel.frame _, fun h => by cases h⟩
theorem u256Order_over : Rows.u256OrderRow.holds Try.pinned (OpenSpec.ofChange Rows.u256OrderSpec) :=
  OpenClaim.holds_of_wide 4 Try.f4 rfl rfl rfl rfl rfl rfl rfl ⟨rfl, rfl, rfl, rfl, rfl⟩ rfl rfl rfl rfl rfl (by kernel_rfl) Try.func4 u256Order_joined
    (of_decide_eq_true (by kernel_rfl)) (by unfold Func.isWrapper; first | (rw [if_pos (by decide +kernel)]; kernel_rfl) | (rw [if_neg (by decide +kernel)]; exact ⟨rfl, rfl⟩))
    (fun os started H enc _ => u256Order_lifted os started H enc)
/-- The statement. -/
theorem u256Order_proved : Rows.U256OrderSaid := u256Order_over
#print axioms u256Order_proved
end Go.Proofs.Ytkgjgdeaclefiaa
