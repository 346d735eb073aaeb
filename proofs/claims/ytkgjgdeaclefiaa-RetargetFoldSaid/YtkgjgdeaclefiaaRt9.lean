/-
  florinlaw13.RetargetFold: for any rules and header the law answers true.
-/
import Derived.Test.YtkgjgdeaclefiaaRt8
import Derived.Test.YtkgjgdeaclefiaaRt7
namespace Go.Proofs.Ytkgjgdeaclefiaa
open Go Go.Proofs Go.RowKit Go.Flo

theorem cmp_gt13 (m n : Nat) : decide (0 < cmpI m n) = decide (n < m) := by
  unfold cmpI
  by_cases h : m < n
  · rw [if_pos h, decide_eq_false (show ¬ n < m by omega)]; rfl
  · rw [if_neg h]
    by_cases h2 : n < m
    · rw [if_pos h2, decide_eq_true h2]; rfl
    · rw [if_neg h2, decide_eq_false h2]; rfl
theorem cmp_ge13 (m n : Nat) : decide (0 ≤ cmpI m n) = decide (n ≤ m) := by
  unfold cmpI
  by_cases h : m < n
  · rw [if_pos h, decide_eq_false (show ¬ n ≤ m by omega)]; rfl
  · rw [if_neg h, decide_eq_true (show n ≤ m by omega)]
    split <;> rfl
/-- What is scaled by no more than four, and no less than a seventh. -/
theorem ratio_fold {t n d : Nat} (h4 : 4 ≤ d) (hd : d ≤ 1099511627776) (hn : n ≤ 4 * d) (hn7 : d ≤ 7 * n) (ht : t < 2 ^ 200) : (ratioN t n d).2 = false ∧ (ratioN t n d).1 ≤ 4 * t ∧ t / 7 ≤ (ratioN t n d).1 := by
  have hb : (2 : Nat) ^ 250 < top := by rw [top_pow]; exact Nat.pow_lt_pow_right (by decide) (by decide)
  have e1 : t = d * (t / d) + t % d := (Nat.div_add_mod t d).symm
  have hr : t % d < d := Nat.mod_lt _ (by omega)
  have hqt : t / d * d ≤ t := Nat.div_mul_le_self _ _
  have hw : t / d * n ≤ 4 * t := by
    have : t / d * n ≤ t / d * (4 * d) := Nat.mul_le_mul_left _ hn
    have e : t / d * (4 * d) = 4 * (t / d * d) := by rw [Nat.mul_left_comm]
    omega
  have hrn : t % d * n ≤ d * (4 * d) := Nat.mul_le_mul (Nat.le_of_lt hr) hn
  have hdd : d * (4 * d) ≤ 1099511627776 * (4 * 1099511627776) := Nat.mul_le_mul hd (by omega)
  have h200 : 4 * (2 : Nat) ^ 200 + 4 * 1099511627776 < 2 ^ 250 := by decide +kernel
  have hbig : (1099511627776 * (4 * 1099511627776) : Nat) < 2 ^ 250 := by decide +kernel
  have hp : t % d * n / d ≤ 4 * d := by
    refine Nat.div_le_of_le_mul ?_
    exact hrn
  have m1 : t / d * n % top = t / d * n := Nat.mod_eq_of_lt (by omega)
  have m2 : t % d * n % top = t % d * n := Nat.mod_eq_of_lt (by omega)
  -- the whole is the quotient of the product
  have hq : t / d * n + t % d * n / d = t * n / d := by
    have e2 : t * n = d * (t / d * n) + t % d * n := by
      conv => lhs; rw [e1]
      rw [Nat.add_mul, Nat.mul_assoc]
    rw [e2, Nat.mul_add_div (by omega)]
  have hup : t * n / d ≤ 4 * t := by
    refine Nat.div_le_of_le_mul ?_
    have : t * n ≤ t * (4 * d) := Nat.mul_le_mul_left _ hn
    have e : t * (4 * d) = d * (4 * t) := by rw [Nat.mul_comm t, Nat.mul_assoc, Nat.mul_left_comm]
    omega
  have hlo : t / 7 ≤ t * n / d := by
    rw [Nat.le_div_iff_mul_le (by omega)]
    have h7 : t / 7 * 7 ≤ t := Nat.div_mul_le_self _ _
    have a1 : t / 7 * d ≤ t / 7 * (7 * n) := Nat.mul_le_mul_left _ hn7
    have a2 : t / 7 * (7 * n) = t / 7 * 7 * n := by rw [Nat.mul_assoc]
    have a3 : t / 7 * 7 * n ≤ t * n := Nat.mul_le_mul_right _ h7
    omega
  have m3 : (t / d * n + t % d * n / d) % top = t * n / d := by rw [hq]; exact Nat.mod_eq_of_lt (by omega)
  unfold ratioN
  rw [m1, m2]
  refine ⟨?_, by rw [m3]; exact hup, by rw [m3]; exact hlo⟩
  rw [hq, decide_eq_false (by omega), decide_eq_false (by omega)]
  rfl
/-- Shrunk it loses little. -/
theorem shrink_cut {q : Nat} (h0 : q ≠ 0) (hq : q < top) : q ≤ rawT (shrinkN q) + q / 32768 := by
  obtain ⟨K, h1, _, _, h4, _⟩ := back_core h0 hq top_24
  rw [h1]
  have hm := Nat.div_add_mod q (2 ^ K)
  have hl := Nat.mod_lt q (Nat.two_pow_pos K)
  rw [Nat.mul_comm] at hm
  rcases h4 with rfl | h4
  · simp only [Nat.pow_zero, Nat.div_one, Nat.mul_one]; omega
  · have : 2 ^ K ≤ q / 32768 := by
      rw [Nat.le_div_iff_mul_le (by decide), Nat.mul_comm]
      have := Nat.mul_le_mul_right (2 ^ K) h4
      omega
    omega
theorem rfold_walk (w0 : World) (P V : Value) (first : Int) (hP : ∃ (c : Nat) (i s f x o : Int) (a : Option Addr) (n cp : Nat), P = prm c i s f x o a n cp ∧ c < 4294967296 ∧ -9223372036854775808 ≤ i ∧ i ≤ 9223372036854775807)
    (hV : ∃ (hc : Array Value) (time bits : Nat), V = .agg hc ∧ hc.size = 68 ∧ hc[65]? = some (.int .u32 (time : Int)) ∧ hc[66]? = some (.int .u32 (bits : Int)) ∧ time < 4294967296 ∧ bits < 4294967296) (hf : (Lit.int .u32 first).wf = true) :
    Calls Try.prog 23 #[P, V, .int .u32 first] w0 fun e w' => e = .returned (.bool true) ∧ Below w0.heap.size w0 w' := by
  obtain ⟨c, i, s, f, x, o, a, n, cp, rfl, hc, hi1, hi2⟩ := hP
  obtain ⟨hA, time, bits, rfl, hsz, h65, h66, htm, hbt⟩ := hV
  obtain ⟨fn, rfl, hfn⟩ := n32_of_wf hf
  have SG := sane_g c i s f x o a n cp hc
  have X1 := expand_c bits hbt
  have X2 := expand_c c hc
  have C1 := cmp_c (expandN bits).1 (expandN c).1 (expandN_lt bits top_24) (expandN_lt c top_24)
  have L1 : Gives 69 #[uV (expandN bits).1] (.int .i64 ((lenN (expandN bits).1 : Nat) : Int)) := len_c _ (expandN_lt bits top_24)
  have sh := fun h => rfold_short c n cp (expandN c).1 (expandN bits).1 i s f x o fn bits _ _ _ _ a hA (saneB c i s f x o n) w0 h66 X1 X2 SG C1 L1 h
  rw [cmp_gt13] at sh
  by_cases hn : 200 < n
  · exact sh (.inl (by omega))
  cases hq : saneB c i s f x o n with
  | false => exact sh (.inr (.inl ⟨by omega, hq⟩))
  | true =>
    cases hb : badT bits with
    | true => exact sh (.inr (.inr (.inl ⟨by omega, hq, by rw [expandN_bad hb]; rfl⟩)))
    | false =>
      obtain ⟨g0, g1, g2, g3, g4⟩ := sane_facts hq
      have e1 := expandN_of hb
      have e2 := expandN_of g0
      have ez : ((expandN bits).2 : Int) = 0 := by rw [e1]; rfl
      by_cases hgt : rawT c < rawT bits
      · exact sh (.inr (.inr (.inr (.inl ⟨by omega, hq, ez, by rw [e1, e2]; exact decide_eq_true hgt⟩))))
      have hcm : decide ((expandN c).1 < (expandN bits).1) = false := by rw [e1, e2]; exact decide_eq_false hgt
      by_cases hl1 : 200 < lenN (expandN bits).1
      · exact sh (.inr (.inr (.inr (.inr (.inl ⟨by omega, hq, ez, hcm, by omega⟩)))))
      by_cases hl2 : lenN (expandN bits).1 < 40
      · exact sh (.inr (.inr (.inr (.inr (.inr ⟨by omega, hq, ez, hcm, by omega, by omega⟩)))))
      clear sh
      rw [hq] at SG
      have NX := next_c c i s f x o a n cp i hA bits (time : Int) (fn : Int) hc hbt h65 h66 (by omega) (by omega) (by omega) (by omega) hi2
      have hs : spanI s = s := by unfold spanI; rw [Int.min_eq_left g4, Int.max_eq_right g3]
      obtain ⟨k1, k2, k3, _, _⟩ := clamp_bounds ((time : Int) - fn) s
      rw [hs] at k1 k2 k3
      have e : nextI c i s f x o n i bits time fn = scaleN bits (clampI (time - fn) s).toNat s.toNat c := by
        unfold nextI
        rw [if_neg (by rw [hq]; decide), if_neg (fun h => h.elim (fun h => by omega) (fun h => h (Int.emod_self)))]
      rw [e] at NX
      have hok : okN bits c = true := by unfold okN; rw [hb, g0]; rfl
      have ht2 : rawT bits < 2 ^ 200 := by
        have := lenN_hi (expandN bits).1
        rw [e1] at this hl1
        exact Nat.lt_of_lt_of_le this (Nat.pow_le_pow_right (by decide) (by omega))
      have ht1 : 2 ^ 39 ≤ rawT bits := by
        have hne := rawT_ne hb
        rw [e1] at hl2
        have hl2 : ¬ lenN (rawT bits) < 40 := hl2
        exact Nat.le_trans (Nat.pow_le_pow_right (by decide) (by omega)) (lenN_lo hne)
      obtain ⟨cn, hcn⟩ : ∃ cn : Nat, clampI ((time : Int) - fn) s = (cn : Int) := ⟨(clampI ((time : Int) - fn) s).toNat, by omega⟩
      obtain ⟨sn, hsn⟩ : ∃ sn : Nat, s = (sn : Int) := ⟨s.toNat, by omega⟩
      rw [hcn] at k1 k2 NX
      rw [hsn] at k1 k2 g3 g4 NX
      simp only [Int.toNat_natCast] at NX
      have hsb : scaleN bits cn sn c = shrinkN (scaleQ (rawT bits) (rawT c) cn sn) := by
        unfold scaleN
        rw [if_neg]
        rintro (h | h | h)
        · rw [hok] at h; cases h
        · omega
        · omega
      obtain ⟨r1, r2, r3⟩ := ratio_fold (t := rawT bits) (n := cn) (d := sn) (by omega) (by omega) (by omega) (by omega) ht2
      have hT : (2 : Nat) ^ 210 < top := by rw [top_pow]; exact Nat.pow_lt_pow_right (by decide) (by decide)
      have h210 : 32 * (2 : Nat) ^ 200 = 2 ^ 205 := by decide +kernel
      have h205 : (2 : Nat) ^ 205 < 2 ^ 210 := Nat.pow_lt_pow_right (by decide) (by decide)
      have hQ : scaleQ (rawT bits) (rawT c) cn sn ≤ 4 * rawT bits ∧ rawT bits / 7 ≤ scaleQ (rawT bits) (rawT c) cn sn := by
        unfold scaleQ
        split
        · rename_i h
          rcases h with h | h | h
          · rw [r1] at h; cases h
          · omega
          · exact ⟨by omega, by omega⟩
        · exact ⟨r2, r3⟩
      have hQ0 : scaleQ (rawT bits) (rawT c) cn sn ≠ 0 := by omega
      have hQt : scaleQ (rawT bits) (rawT c) cn sn < top := by omega
      generalize scaleQ (rawT bits) (rawT c) cn sn = q at *
      obtain ⟨p1, p2, p3⟩ := shrink_good hQ0 hQt
      have p4 := shrink_cut hQ0 hQt
      rw [hsb] at NX
      generalize shrinkN q = b at *
      have X3 := expand_c b p3
      rw [expandN_of p1] at X3
      rw [e1] at X1 C1 L1 hl1 hl2 hcm
      rw [e2] at X2 C1 hcm
      have M1 := mul_c (rawT bits) 4 (by omega) (by decide)
      have M2 := mul_c (rawT b) 8 (by omega) (by decide)
      have n1 : rawT bits * 4 % top = rawT bits * 4 := Nat.mod_eq_of_lt (by omega)
      have n2 : rawT b * 8 % top = rawT b * 8 := Nat.mod_eq_of_lt (by omega)
      rw [n1] at M1
      rw [n2] at M2
      refine rfold_main c n cp b (rawT c) (rawT bits) (rawT b) (rawT bits * 4) (rawT b * 8) i s f x o fn bits _ _ _ _ _ _ _ a hA w0 (Lib.hid hsz) h66 X1 X2 SG C1 L1 (by rw [hsn]; exact NX) X3 M1 M2 (cmp_c _ _ (by omega) (by omega)) (cmp_c _ _ (by omega) (by omega)) (by omega) ?_ (by omega) (by omega) ?_ ?_
      · rw [cmp_gt13]; exact hcm
      · rw [cmp_le13]; exact decide_eq_true (by omega)
      · rw [cmp_ge13]; exact decide_eq_true (by omega)

open Go.ChangeShapes Go.WideShapes Go.ChangeAt
theorem retargetFold_joined : joinedFacts Try.pinned.checked.prog 23 Try.f23 Rows.retargetFoldSpec Rows.retargetFoldRow = true := and_mk (and_mk (and_mk (and_mk (and_mk (and_mk (and_mk (and_mk (and_mk (and_mk (and_mk (and_mk (and_mk (and_mk (and_mk (and_mk (and_mk (and_mk (and_mk (and_mk (and_mk (and_mk (and_mk (and_mk (and_mk (and_mk (and_mk (and_mk (and_mk (and_mk (and_mk (by as_aux_lemma => kernel_rfl) laidOut) pf_maps) (by as_aux_lemma => kernel_rfl)) (by as_aux_lemma => kernel_rfl)) (by as_aux_lemma => kernel_rfl)) pf_stops) (by as_aux_lemma => kernel_rfl)) pf_knobs) (by as_aux_lemma => kernel_rfl)) (by as_aux_lemma => kernel_rfl)) (by as_aux_lemma => kernel_rfl)) (by as_aux_lemma => kernel_rfl)) (by as_aux_lemma => kernel_rfl)) (by as_aux_lemma => kernel_rfl)) (by as_aux_lemma => kernel_rfl)) (by as_aux_lemma => kernel_rfl)) (by as_aux_lemma => kernel_rfl)) (by as_aux_lemma => kernel_rfl)) (by as_aux_lemma => kernel_rfl)) (by as_aux_lemma => kernel_rfl)) (by as_aux_lemma => kernel_rfl)) pf_plain) (by as_aux_lemma => kernel_rfl)) pf_heard) pf_enter) pf_lifts) pf_make) (by as_aux_lemma => kernel_rfl)) (by as_aux_lemma => kernel_rfl)) (by as_aux_lemma => kernel_rfl)) (by as_aux_lemma => kernel_rfl)
set_option maxRecDepth 100000 in
theorem retargetFold_lifted (os : Os) (started : os.Started) (H : Type) (enc : TypeId × Value → H) :
    ReturnsInHanded {} Try.checked os 23 .any (Rows.retargetFoldSpec.pre6 enc Try.prog Try.f23 Rows.retargetFoldRow.domain false) (Rows.retargetFoldSpec.post enc Try.prog Try.f23 false true false false) := by
  refine returnsInHanded_of_change (C := Try.checked) own started (by kernel_rfl) Try.func23
    (ChangeSpec.witness6 (enc := enc) (C := Try.checked) false ⟨#[], #[.agg #[.int .u32 0, .int .i64 0, .int .i64 0, .int .i64 0, .int .i64 0, .int .i64 0, .slice none 0 0], .agg (#[.int .u32 0] ++ Array.replicate 64 (.int .u8 0) ++ #[.int .u32 0, .int .u32 0, .int .u32 0]), .int .u32 0], []⟩ 8 (by kernel_rfl) (by kernel_rfl) (by kernel_rfl) (by kernel_rfl)) ?_
  intro W base args ds gs before hval0 hW hcnd _
  have hval : ∀ (j : Nat) t v, Try.f23.params[j]? = some t → args[j]? = some v → Value.okWide Try.prog W .any base t v := hval0
  have hW' := hW
  obtain ⟨p, q, hA0, hV, rfl, hfz, hnd⟩ := hW
  have hA : DataW.TrodAll enc Try.prog W 0 (fun _ => true) true Try.f23.params.toList args.toList ds p := hA0
  rw [Try.params23] at hA hval
  obtain ⟨v0, vs0, d0, ds0, p0, q0, hargs, rfl, rfl, h0, r0⟩ := trodAll_cons hA
  obtain ⟨v1, vs1, d1, ds1, p1, q1, rfl, rfl, rfl, h1, r1⟩ := trodAll_cons r0
  obtain ⟨v2, vs2, d2, ds2, p2, q2, rfl, rfl, rfl, h2, r2⟩ := trodAll_cons r1
  obtain ⟨rfl, rfl, rfl⟩ := trodAll_nil r2
  obtain rfl : args = #[v0, v1, v2] := by cases args; simp_all
  obtain ⟨rfl, rfl⟩ := trodVars_none hV
  have k0 := h0
  have lt0 : ∀ x ∈ p0, x.block < W.heap.size := by obtain ⟨m, hm⟩ := k0; exact DataW.trod_lt m _ _ _ hm
  have k1 := h1
  have lt1 : ∀ x ∈ p1, x.block < W.heap.size := by obtain ⟨m, hm⟩ := k1; exact DataW.trod_lt m _ _ _ hm
  have k2 := h2
  have lt2 : ∀ x ∈ p2, x.block < W.heap.size := by obtain ⟨m, hm⟩ := k2; exact DataW.trod_lt m _ _ _ hm
  have w0 := open_params (hval 0 113 v0 rfl rfl) h0
  have w1 := open_header (hval 1 115 v1 rfl rfl) h1
  obtain ⟨a2, rfl, rfl, rfl, w2⟩ := open_int Try.underlying43 (hval 2 43 v2 rfl rfl) h2
  clear hA0 hval0
  refine (rfold_walk W v0 v1 a2 w0 w1 w2).mono fun e W' ⟨he, bel⟩ => ?_
  subst he
  exact ⟨_, rfl, _, _, _, [], _, [], hW', trodAll_mk1 (shut_bool Try.underlying4 _), (trodAll_cons_mk (Below.trod laidOut (by kernel_rfl) (of_decide_eq_true (by kernel_rfl)) k0 bel lt0) (trodAll_cons_mk (Below.trod laidOut (by kernel_rfl) (of_decide_eq_true (by kernel_rfl)) k1 bel lt1) (trodAll_cons_mk (Below.trod laidOut (by kernel_rfl) (of_decide_eq_true (by kernel_rfl)) k2 bel lt2) trodAll_mk0))), rfl, bel.frame _, fun h => by cases h⟩
theorem retargetFold_over : Rows.retargetFoldRow.holds Try.pinned (OpenSpec.ofChange Rows.retargetFoldSpec) :=
  OpenClaim.holds_of_wide 23 Try.f23 rfl rfl rfl rfl rfl rfl rfl ⟨rfl, rfl, rfl, rfl, rfl⟩ rfl rfl rfl rfl rfl (by kernel_rfl) Try.func23 retargetFold_joined
    (of_decide_eq_true (by kernel_rfl)) (by unfold Func.isWrapper; first | (rw [if_pos (by decide +kernel)]; kernel_rfl) | (rw [if_neg (by decide +kernel)]; exact ⟨rfl, rfl⟩))
    (fun os started H enc _ => retargetFold_lifted os started H enc)
/-- The statement. -/
theorem retargetFold_proved : Rows.RetargetFoldSaid := retargetFold_over
#print axioms retargetFold_proved
end Go.Proofs.Ytkgjgdeaclefiaa
