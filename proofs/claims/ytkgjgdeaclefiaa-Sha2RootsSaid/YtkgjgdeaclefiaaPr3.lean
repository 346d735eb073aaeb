/-
  florinlaw02.Sha2Roots: for any number the law answers true.
-/
import Derived.Test.YtkgjgdeaclefiaaPr2
import Derived.Test.YtkgjgdeaclefiaaLft
namespace Go.Proofs.Ytkgjgdeaclefiaa
open Go Go.Proofs Go.RowKit Go.Flo

theorem i64_and63 (n : Int) : bits .and .i64 n 63 = n % 64 := by
  have h63 : (BitVec.ofInt 64 63).toNat = 2 ^ 6 - 1 := by decide
  have key : (BitVec.ofInt 64 n &&& BitVec.ofInt 64 63).toNat = (n % ((2 ^ 64 : Nat) : Int)).toNat % 2 ^ 6 := by
    rw [BitVec.toNat_and, BitVec.toNat_ofInt, h63, Nat.and_two_pow_sub_one_eq_mod]
  show IntKind.i64.wrap ((BitVec.ofInt 64 n &&& BitVec.ofInt 64 63).toNat : Nat) = n % 64
  rw [key, IntKind.wrap_i64]
  omega
def rootX (n : Nat) : Nat := rt3 (primeN n) 10 1 * 4294967296 + (kL.getD n 0).toNat
def rootY (n : Nat) : Nat := rt2 (primeN n) 25 1 * 4294967296 + (h0L.getD n 0).toNat
def chkR (n : Nat) : Bool :=
  let p := primeN n
  let R := rt3 p 10 1
  let X := R * 4294967296 + (kL.getD n 0).toNat
  decide (p ≤ 401) && decide (R ≤ 8) && decide (X * X * X ≤ p * 2 ^ 96) && decide (p * 2 ^ 96 < (X + 1) * (X + 1) * (X + 1))
def chkS (n : Nat) : Bool :=
  let p := primeN n
  let R := rt2 p 25 1
  let Y := R * 4294967296 + (h0L.getD n 0).toNat
  decide (R ≤ 21) && decide (Y * Y ≤ p * 2 ^ 64) && decide (p * 2 ^ 64 < (Y + 1) * (Y + 1))
theorem chkR_all : (List.range 64).all chkR = true := by decide +kernel
theorem chkS_all : (List.range 8).all chkS = true := by decide +kernel
theorem or_hi (R K : Nat) (hR : R ≤ 100) (hK : K < 4294967296) : bits .or .u64 ((R : Int) * 4294967296) (K : Int) = ((R * 4294967296 + K : Nat) : Int) := by
  rw [show (R : Int) * 4294967296 = ((2 ^ 32 * R : Nat) : Int) by omega, u64_or_nat _ _ (by omega) (by omega), ← Nat.two_pow_add_eq_or_of_lt (by omega)]
  congr 1
  omega
theorem cmp_gtR (m n : Nat) : decide (0 < cmpI m n) = decide (n < m) := by
  unfold cmpI
  by_cases h : m < n
  · rw [if_pos h, decide_eq_false (show ¬ n < m by omega)]; rfl
  · rw [if_neg h]
    by_cases h2 : n < m
    · rw [if_pos h2, decide_eq_true h2]; rfl
    · rw [if_neg h2, decide_eq_false h2]; rfl
theorem cmp_leR (m n : Nat) : decide (cmpI m n ≤ 0) = decide (m ≤ n) := by
  unfold cmpI
  by_cases h : m < n
  · rw [if_pos h, decide_eq_true (show m ≤ n by omega)]; rfl
  · rw [if_neg h]
    by_cases h2 : n < m
    · rw [if_pos h2, decide_eq_false (show ¬ m ≤ n by omega)]; rfl
    · rw [if_neg h2, decide_eq_true (show m ≤ n by omega)]; rfl
theorem top_200 : 2 ^ 200 < top := by rw [top_pow]; exact Nat.pow_lt_pow_right (by decide) (by decide)
theorem cube_c (x : Nat) (hx : x ≤ 2 ^ 41) : Gives 95 #[.int .u64 (x : Int)] (uV (x * x * x)) := fun w => by
  have hT := top_200
  have h2 : x * x ≤ 2 ^ 41 * 2 ^ 41 := Nat.mul_le_mul hx hx
  have h3 : x * x * x ≤ 2 ^ 41 * 2 ^ 41 * 2 ^ 41 := Nat.mul_le_mul h2 hx
  have e1 : (2 : Nat) ^ 41 * 2 ^ 41 * 2 ^ 41 < 2 ^ 200 := by decide +kernel
  have e2 : (2 : Nat) ^ 41 * 2 ^ 41 < 2 ^ 200 := by decide +kernel
  have e3 : (2 : Nat) ^ 41 < 18446744073709551616 := by decide
  have e4 : (2 : Nat) ^ 41 < 2 ^ 200 := by decide +kernel
  have M1 := mul_c x x (by omega) (by omega)
  have M2 := mul_c (x * x) x (by omega) (by omega)
  rw [Nat.mod_eq_of_lt (show x * x < top by omega)] at M1
  rw [Nat.mod_eq_of_lt (show x * x * x < top by omega)] at M2
  exact cube_main x _ _ _ _ _ w (of_lit x (by omega)) M1 M2
theorem roots_walk (w0 : World) (i : Int) (hi : (Lit.int .i64 i).wf = true) :
    Calls Try.prog 20 #[.int .i64 i] w0 fun e w' => e = .returned (.bool true) ∧ Below w0.heap.size w0 w' := by
  have hT := top_200
  obtain ⟨n, hn, hn64⟩ : ∃ n : Nat, i % 64 = (n : Int) ∧ n < 64 := ⟨(i % 64).toNat, by omega, by omega⟩
  have hA : bits .and .i64 i 63 = (n : Int) := by rw [i64_and63, hn]
  have hc := List.all_eq_true.1 chkR_all n (List.mem_range.2 hn64)
  unfold chkR at hc
  simp only [Bool.and_eq_true, decide_eq_true_eq] at hc
  obtain ⟨⟨⟨g1, g2⟩, g3⟩, g4⟩ := hc
  have hK := (kL.getD n 0).toNat_lt
  have P1 := fun w => (prime_c n w).mono fun e w' (h : e = .returned (.int .u64 (primeN n : Int)) ∧ w = w') => (⟨h.1, h.2 ▸ Below.refl _ _⟩ : e = .returned (.int .u64 (primeN n : Int)) ∧ Below w.heap.size w w')
  have KC := constant_c (n : Int) (by omega)
  rw [wordAt_nat] at KC
  have IC := initial_c (n : Int)
  rw [wordAt_nat] at IC
  have hXo := or_hi (rt3 (primeN n) 10 1) (kL.getD n 0).toNat (by omega) hK
  obtain ⟨X, hX⟩ : ∃ X, X = rt3 (primeN n) 10 1 * 4294967296 + (kL.getD n 0).toNat := ⟨_, rfl⟩
  rw [← hX] at hXo g3 g4
  have hX40 : X ≤ 1099511627776 := by omega
  have e96 : primeN n * 2 ^ 96 < top := by
    exact Nat.lt_of_le_of_lt (Nat.mul_le_mul_right _ g1) (Nat.lt_trans (show (401 : Nat) * 2 ^ 96 < 2 ^ 200 by decide +kernel) hT)
  have e64 : primeN n * 2 ^ 64 < top := by
    exact Nat.lt_of_le_of_lt (Nat.mul_le_mul_right _ g1) (Nat.lt_trans (show (401 : Nat) * 2 ^ 64 < 2 ^ 200 by decide +kernel) hT)
  have hpt : primeN n < top := by
    have : (401 : Nat) < 2 ^ 200 := by decide +kernel
    omega
  have S1 := shl_c (primeN n) hpt 96
  rw [show (96 : Int).toNat = 96 from rfl, Nat.mod_eq_of_lt e96] at S1
  have S2 := shl_c (primeN n) hpt 64
  rw [show (64 : Int).toNat = 64 from rfl, Nat.mod_eq_of_lt e64] at S2
  have e41 : (1099511627776 : Nat) + 1 ≤ 2 ^ 41 := by decide
  have hc3 : X * X * X < top := by omega
  have hX1 : (X + 1) * (X + 1) * (X + 1) < top := by
    have h2 : (X + 1) * (X + 1) ≤ 2 ^ 41 * 2 ^ 41 := Nat.mul_le_mul (by omega) (by omega)
    have h3 : (X + 1) * (X + 1) * (X + 1) ≤ 2 ^ 41 * 2 ^ 41 * 2 ^ 41 := Nat.mul_le_mul h2 (by omega)
    have e1 : (2 : Nat) ^ 41 * 2 ^ 41 * 2 ^ 41 < 2 ^ 200 := by decide +kernel
    omega
  have B1 := cube_c X (by omega)
  have B2 := cube_c (X + 1) (by omega)
  have C1 := cmp_c (X * X * X) (primeN n * 2 ^ 96) hc3 e96
  have C2 := cmp_c ((X + 1) * (X + 1) * (X + 1)) (primeN n * 2 ^ 96) hX1 e96
  have h1 : decide (0 < cmpI (X * X * X) (primeN n * 2 ^ 96)) = false := by rw [cmp_gtR]; exact decide_eq_false (by omega)
  have h2 : decide (cmpI ((X + 1) * (X + 1) * (X + 1)) (primeN n * 2 ^ 96) ≤ 0) = false := by rw [cmp_leR]; exact decide_eq_false (by omega)
  have hp1 : ((primeN n : Nat) : Int) ≤ 401 := by omega
  have O1 := of_lit (primeN n) (by omega)
  by_cases h7 : 7 < n
  · have h0 : h0L.getD n 0 = 0 := by
      rw [List.getD_eq_getElem?_getD, List.getElem?_eq_none (by show 8 ≤ n; omega)]; rfl
    rw [h0] at IC
    exact roots_hi i _ X n (primeN n) _ _ _ _ _ _ _ w0 hA (by omega) hp1 rfl (by omega) P1 KC hXo (by omega) (by omega) (by omega) (by omega) O1 S1 B1 B2 C1 C2 h1 h2 IC
  · have hs := List.all_eq_true.1 chkS_all n (List.mem_range.2 (by omega))
    unfold chkS at hs
    simp only [Bool.and_eq_true, decide_eq_true_eq] at hs
    obtain ⟨⟨k1, k2⟩, k3⟩ := hs
    have hH := (h0L.getD n 0).toNat_lt
    have hYo := or_hi (rt2 (primeN n) 25 1) (h0L.getD n 0).toNat (by omega) hH
    obtain ⟨Y, hY⟩ : ∃ Y, Y = rt2 (primeN n) 25 1 * 4294967296 + (h0L.getD n 0).toNat := ⟨_, rfl⟩
    rw [← hY] at hYo k2 k3
    have hY40 : Y ≤ 1099511627776 := by omega
    have hy2 : Y * Y < top := by omega
    have hy3 : (Y + 1) * (Y + 1) < top := by
      have h2 : (Y + 1) * (Y + 1) ≤ 2 ^ 41 * 2 ^ 41 := Nat.mul_le_mul (by omega) (by omega)
      have e1 : (2 : Nat) ^ 41 * 2 ^ 41 < 2 ^ 200 := by decide +kernel
      omega
    have hyt : (1099511627776 : Nat) + 1 < 2 ^ 200 := by decide +kernel
    have M1 := mul_c Y Y (by omega) (by omega)
    rw [Nat.mod_eq_of_lt hy2] at M1
    have M2 := mul_c (Y + 1) (Y + 1) (by omega) (by omega)
    rw [Nat.mod_eq_of_lt hy3] at M2
    refine roots_lo i _ X n (primeN n) _ _ _ _ _ _ _ w0 hA (by omega) hp1 rfl (by omega) P1 KC hXo (by omega) (by omega) (by omega) (by omega) O1 S1 B1 B2 C1 C2 h1 h2 _ _ Y _ _ _ _ _ _ _ _ _ _ rfl (by omega) IC (by omega) (by omega) hYo (by omega) (by omega) S2 (of_lit Y (by omega)) M1 (of_lit (Y + 1) (by omega)) M2 (cmp_c (Y * Y) (primeN n * 2 ^ 64) hy2 e64) (cmp_c ((Y + 1) * (Y + 1)) (primeN n * 2 ^ 64) hy3 e64) ?_ ?_
    · rw [cmp_leR]; exact decide_eq_true k2
    · rw [cmp_gtR]; exact decide_eq_true k3

open Go.ChangeShapes Go.WideShapes Go.ChangeAt
theorem sha2Roots_joined : joinedFacts Try.pinned.checked.prog 20 Try.f20 Rows.sha2RootsSpec Rows.sha2RootsRow = true := and_mk (and_mk (and_mk (and_mk (and_mk (and_mk (and_mk (and_mk (and_mk (and_mk (and_mk (and_mk (and_mk (and_mk (and_mk (and_mk (and_mk (and_mk (and_mk (and_mk (and_mk (and_mk (and_mk (and_mk (and_mk (and_mk (and_mk (and_mk (and_mk (and_mk (and_mk (by as_aux_lemma => kernel_rfl) laidOut) pf_maps) (by as_aux_lemma => kernel_rfl)) (by as_aux_lemma => kernel_rfl)) (by as_aux_lemma => kernel_rfl)) pf_stops) (by as_aux_lemma => kernel_rfl)) pf_knobs) (by as_aux_lemma => kernel_rfl)) (by as_aux_lemma => kernel_rfl)) (by as_aux_lemma => kernel_rfl)) (by as_aux_lemma => kernel_rfl)) (by as_aux_lemma => kernel_rfl)) (by as_aux_lemma => kernel_rfl)) (by as_aux_lemma => kernel_rfl)) (by as_aux_lemma => kernel_rfl)) (by as_aux_lemma => kernel_rfl)) (by as_aux_lemma => kernel_rfl)) (by as_aux_lemma => kernel_rfl)) (by as_aux_lemma => kernel_rfl)) (by as_aux_lemma => kernel_rfl)) pf_plain) (by as_aux_lemma => kernel_rfl)) pf_heard) pf_enter) pf_lifts) pf_make) (by as_aux_lemma => kernel_rfl)) (by as_aux_lemma => kernel_rfl)) (by as_aux_lemma => kernel_rfl)) (by as_aux_lemma => kernel_rfl)
set_option maxRecDepth 100000 in
theorem sha2Roots_lifted (os : Os) (started : os.Started) (H : Type) (enc : TypeId × Value → H) :
    ReturnsInHanded {} Try.checked os 20 .any (Rows.sha2RootsSpec.pre6 enc Try.prog Try.f20 Rows.sha2RootsRow.domain false) (Rows.sha2RootsSpec.post enc Try.prog Try.f20 false true false false) := by
  refine returnsInHanded_of_change (C := Try.checked) own started (by kernel_rfl) Try.func20
    (ChangeSpec.witness6 (enc := enc) (C := Try.checked) false ⟨#[], #[.int .i64 0], []⟩ 8 (by kernel_rfl) (by kernel_rfl) (by kernel_rfl) (by kernel_rfl)) ?_
  intro W base args ds gs before hval0 hW hcnd _
  have hval : ∀ (j : Nat) t v, Try.f20.params[j]? = some t → args[j]? = some v → Value.okWide Try.prog W .any base t v := hval0
  have hW' := hW
  obtain ⟨p, q, hA0, hV, rfl, hfz, hnd⟩ := hW
  have hA : DataW.TrodAll enc Try.prog W 0 (fun _ => true) true Try.f20.params.toList args.toList ds p := hA0
  rw [Try.params20] at hA hval
  obtain ⟨v0, vs0, d0, ds0, p0, q0, hargs, rfl, rfl, h0, r0⟩ := trodAll_cons hA
  obtain ⟨rfl, rfl, rfl⟩ := trodAll_nil r0
  obtain rfl : args = #[v0] := by cases args; simp_all
  obtain ⟨rfl, rfl⟩ := trodVars_none hV
  have k0 := h0
  have lt0 : ∀ x ∈ p0, x.block < W.heap.size := by obtain ⟨m, hm⟩ := k0; exact DataW.trod_lt m _ _ _ hm
  obtain ⟨a0, rfl, rfl, rfl, w0⟩ := open_int Try.underlying3 (hval 0 3 v0 rfl rfl) h0
  clear hA0 hval0
  refine (roots_walk W a0 w0).mono fun e W' ⟨he, bel⟩ => ?_
  subst he
  exact ⟨_, rfl, _, _, _, [], _, [], hW', trodAll_mk1 (shut_bool Try.underlying4 _), (trodAll_cons_mk (Below.trod laidOut (by kernel_rfl) (of_decide_eq_true (by kernel_rfl)) k0 bel lt0) trodAll_mk0), rfl, bel.frame _, fun h => by cases h⟩
theorem sha2Roots_over : Rows.sha2RootsRow.holds Try.pinned (OpenSpec.ofChange Rows.sha2RootsSpec) :=
  OpenClaim.holds_of_wide 20 Try.f20 rfl rfl rfl rfl rfl rfl rfl ⟨rfl, rfl, rfl, rfl, rfl⟩ rfl rfl rfl rfl rfl (by kernel_rfl) Try.func20 sha2Roots_joined
    (of_decide_eq_true (by kernel_rfl)) (by unfold Func.isWrapper; first | (rw [if_pos (by decide +kernel)]; kernel_rfl) | (rw [if_neg (by decide +kernel)]; exact ⟨rfl, rfl⟩))
    (fun os started H enc _ => sha2Roots_lifted os started H enc)
/-- The statement. -/
theorem sha2Roots_proved : Rows.Sha2RootsSaid := sha2Roots_over
#print axioms sha2Roots_proved
end Go.Proofs.Ytkgjgdeaclefiaa
