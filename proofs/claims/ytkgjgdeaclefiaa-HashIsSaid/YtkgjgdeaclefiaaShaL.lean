/-
  florinref02.Start; florinlaw02.Sha2Start.
-/
import Derived.Test.YtkgjgdeaclefiaaShaK
import Derived.Test.YtkgjgdeaclefiaaShaJ
import Derived.Test.YtkgjgdeaclefiaaLft
namespace Go.Proofs.Ytkgjgdeaclefiaa
open Go Go.Proofs Go.RowKit Go.Flo

/-- A state's cells when t words have come. -/
def stP (t : Nat) : Array Value := (Array.range 10).map fun i => if i < t then .int .u32 ((h0L.getD i 0).toNat : Int) else if i < 8 then .int .u32 0 else if i < 9 then .slice none 0 0 else .int .u64 0
theorem stP_get (t : Nat) (h : t < 8) : (stP t)[t]? = some (.int .u32 0) := by
  unfold stP
  simp [h, show t < 10 by omega]
theorem stP_set (t : Nat) (h : t < 8) : (stP t).setIfInBounds t (.int .u32 ((h0L.getD t 0).toNat : Int)) = stP (t + 1) := by
  unfold stP
  apply Array.ext_getElem?
  intro j
  rw [Array.getElem?_setIfInBounds]
  simp only [Array.getElem?_map, Array.size_map, Array.size_range]
  by_cases h1 : t = j
  · subst h1
    simp [show t < 10 by omega]
  · by_cases h2 : j < 10
    · have h3 : (j < t) = (j < t + 1) := by apply propext; omega
      simp [h1, h2, h3]
    · simp [h1, h2]
theorem stP_zero : stP 0 = #[.int .u32 0, .int .u32 0, .int .u32 0, .int .u32 0, .int .u32 0, .int .u32 0, .int .u32 0, .int .u32 0, .slice none 0 0, .int .u64 0] := by unfold stP; kernel_rfl
set_option maxRecDepth 100000 in
set_option maxHeartbeats 2000000 in
theorem constant_any (i : Int) : Gives 59 #[.int .i64 i] (.int .u32 ((wordAt kL i).toNat : Int)) := fun w0 => by
  have C := constants_c
  by_cases h0 : 0 ≤ i
  · obtain ⟨n, rfl⟩ := Int.eq_ofNat_of_zero_le h0
    rcases Nat.lt_or_ge n 64 with h1 | h1
    · have hx := fun w => run_index_wA (P := Try.prog) w 137 43 64 kL n Try.underlying137 Try.underlying43 (by kernel_rfl) rfl h1
      have hn : ¬ (64 ≤ (n : Int)) := by omega
      rw [wordAt_nat]
      generalize (kL.getD n 0).toNat = v at *
      have M := Mem.nil w0; have F := Mem.facts M; simp only [MemFacts] at F; (try simp only [ApartFacts] at F)
      go_enter Try.func59, Try.ntmps59
      go_wp2_with (first | (go_at_call 117; (with_reducible refine (C _).mono ?_); rintro e w1 ⟨rfl, hb⟩; replace M := Mem.call (w0 := w0) (by repeat' (first | (with_reducible exact M) | (with_reducible apply Mem.drew) | (with_reducible apply Mem.alloc))) hb; clear hb; (try clear F); (try simp only [World.size_alloc] at M); (try simp only [heap_drew] at M); have F := Mem.facts M; simp only [MemFacts] at F; (try simp only [ApartFacts] at F)))
      (go_wp2_with (fail); refine bodyPost_ret (v := .int .u32 (v : Int)) (by simp [results, Try.results59, go_sem]) rfl ⟨rfl, (Mem.below (w0 := w0) (by repeat' (first | (with_reducible exact M) | (with_reducible apply Mem.drew) | (with_reducible apply Mem.alloc))))⟩)
    · rw [wordAt_out _ _ (.inr (by show (64 : Int) ≤ _; omega))]
      have hn : 64 ≤ (n : Int) := by omega
      have M := Mem.nil w0; have F := Mem.facts M; simp only [MemFacts] at F; (try simp only [ApartFacts] at F)
      go_enter Try.func59, Try.ntmps59
      go_wp2_with (first | (go_at_call 117; (with_reducible refine (C _).mono ?_); rintro e w1 ⟨rfl, hb⟩; replace M := Mem.call (w0 := w0) (by repeat' (first | (with_reducible exact M) | (with_reducible apply Mem.drew) | (with_reducible apply Mem.alloc))) hb; clear hb; (try clear F); (try simp only [World.size_alloc] at M); (try simp only [heap_drew] at M); have F := Mem.facts M; simp only [MemFacts] at F; (try simp only [ApartFacts] at F)))
      (go_wp2_with (fail); refine bodyPost_ret (v := .int .u32 0) (by simp [results, Try.results59, go_sem]) rfl ⟨rfl, (Mem.below (w0 := w0) (by repeat' (first | (with_reducible exact M) | (with_reducible apply Mem.drew) | (with_reducible apply Mem.alloc))))⟩)
  · rw [wordAt_out _ _ (.inl (by omega))]
    have hn : i < 0 := by omega
    have M := Mem.nil w0; have F := Mem.facts M; simp only [MemFacts] at F; (try simp only [ApartFacts] at F)
    go_enter Try.func59, Try.ntmps59
    go_wp2_with (first | (go_at_call 117; (with_reducible refine (C _).mono ?_); rintro e w1 ⟨rfl, hb⟩; replace M := Mem.call (w0 := w0) (by repeat' (first | (with_reducible exact M) | (with_reducible apply Mem.drew) | (with_reducible apply Mem.alloc))) hb; clear hb; (try clear F); (try simp only [World.size_alloc] at M); (try simp only [heap_drew] at M); have F := Mem.facts M; simp only [MemFacts] at F; (try simp only [ApartFacts] at F)))
    (go_wp2_with (fail); refine bodyPost_ret (v := .int .u32 0) (by simp [results, Try.results59, go_sem]) rfl ⟨rfl, (Mem.below (w0 := w0) (by repeat' (first | (with_reducible exact M) | (with_reducible apply Mem.drew) | (with_reducible apply Mem.alloc))))⟩)
structure RStR (w0 : World) (b1 b0 : Nat) (i : Value) (wr : World) (t : Nat) : Prop where
  le : t ≤ 8
  i : i = .int .i64 (t : Int)
  mem : Mem w0 wr [.c b1 (stP t) 52, .c b0 #[.int .u32 0, .int .u32 0, .int .u32 0, .int .u32 0, .int .u32 0, .int .u32 0, .int .u32 0, .int .u32 0, .slice none 0 0, .int .u64 0] 52]
set_option maxRecDepth 100000 in
set_option maxHeartbeats 2000000 in
theorem rstart_c : Gives 58 #[] startC := fun w0 => by
  have M := Mem.nil w0; have F := Mem.facts M; simp only [MemFacts] at F; (try simp only [ApartFacts] at F)
  go_enter Try.func58, Try.ntmps58
  go_wp2
  replace M := Mem.alloc (Mem.alloc M (cs := #[.int .u32 0, .int .u32 0, .int .u32 0, .int .u32 0, .int .u32 0, .int .u32 0, .int .u32 0, .int .u32 0, .slice none 0 0, .int .u64 0]) (t := 52)) (cs := #[.int .u32 0, .int .u32 0, .int .u32 0, .int .u32 0, .int .u32 0, .int .u32 0, .int .u32 0, .int .u32 0, .slice none 0 0, .int .u64 0]) (t := 52)
  simp only [World.size_alloc] at M
  go_loopw [2] (fun i wr => ∃ t, RStR w0 (w0.heap.size + 1) w0.heap.size i wr t) (fun i _ => (8 - intOf i).toNat)
  case atStart => exact ⟨0, by decide, rfl, by rw [stP_zero]; exact M⟩
  case round =>
    clear M F
    obtain ⟨t, le, rfl, M⟩ := hrel
    rcases Nat.lt_or_ge t 8 with hlt | hge
    · have R1 := rinitial_c (t : Int)
      rw [wordAt_nat] at R1
      have hg := stP_get t hlt
      have hn := stP_set t hlt
      have hlt' : (t : Int) < 8 := by omega
      generalize (h0L.getD t 0).toNat = y at *
      have HN := Lib.hid hn
      clear hn
      have F := Mem.facts M; simp only [MemFacts] at F; (try simp only [ApartFacts] at F)
      go_wp2_with (first | (go_at_call 62; (with_reducible refine (R1 _).mono ?_); rintro e w1 ⟨rfl, hb⟩; replace M := Mem.call (w0 := w0) (by repeat' (first | (with_reducible exact M) | (with_reducible apply Mem.drew) | (with_reducible apply Mem.alloc))) hb; clear hb; (try clear F); (try simp only [World.size_alloc] at M); (try simp only [heap_drew] at M); have F := Mem.facts M; simp only [MemFacts] at F; (try simp only [ApartFacts] at F)))
      have M2 := M.put 0 rfl t (.int .u32 (y : Int))
      rw [HN.out] at M2
      exact ⟨⟨t + 1, by omega, by simp, M2⟩, by simp only [intOf]; omega⟩
    · obtain rfl : t = 8 := by omega
      rw [show stP 8 = #[.int .u32 1779033703, .int .u32 3144134277, .int .u32 1013904242, .int .u32 2773480762, .int .u32 1359893119, .int .u32 2600822924, .int .u32 528734635, .int .u32 1541459225, .slice none 0 0, .int .u64 0] by unfold stP; kernel_rfl] at M
      have F := Mem.facts M; simp only [MemFacts] at F; (try simp only [ApartFacts] at F)
      go_wp2
      have M2 := M.put10 1 rfl (.int .u32 1779033703) (.int .u32 3144134277) (.int .u32 1013904242) (.int .u32 2773480762) (.int .u32 1359893119) (.int .u32 2600822924) (.int .u32 528734635) (.int .u32 1541459225) (.slice none 0 0) (.int .u64 0)
      have hc := fun j => cell_of_row _ _ j _ _ _ (M2.at 1 rfl)
      refine bodyPost_ret (v := startC) (by simp [results, Try.results58, go_sem, hc]) rfl ⟨rfl, M2.below⟩
set_option maxRecDepth 100000 in
set_option maxHeartbeats 2000000 in
theorem start_walk (i : Int) (_hi : (Lit.int .i64 i).wf = true) (w0 : World) :
    Calls Try.prog 9 #[.int .i64 i] w0 fun e w' => e = .returned (.bool true) ∧ Below w0.heap.size w0 w' := by
  have A1 := awake2
  obtain ⟨V0, ST, RS, RT⟩ : ∃ V0, Gives 41 #[] V0 ∧ (∀ w, RdS w V0 startS) ∧ Gives 58 #[] V0 := ⟨startC, start_c, rdS_start, rstart_c⟩
  have T1 := fun w => theirs_c V0 _ w (RS w)
  have S1 := fun w => same_c V0 V0 _ _ w (RS w) (RS w)
  rw [sameS_refl] at S1
  have K1 := constant_any i
  have K2 := rconstant_c i
  have I1 := initial_c i
  have I2 := rinitial_c i
  generalize (wordAt kL i).toNat = x at *
  generalize (wordAt h0L i).toNat = y at *
  clear RS
  have M := Mem.nil w0; have F := Mem.facts M; simp only [MemFacts] at F; (try simp only [ApartFacts] at F)
  go_enter Try.func9, Try.ntmps9
  go_wp2_with (first | (go_at_call 39; (with_reducible refine (A1 _).mono ?_); rintro e w1 ⟨rfl, hb⟩; replace M := Mem.call (w0 := w0) (by repeat' (first | (with_reducible exact M) | (with_reducible apply Mem.drew) | (with_reducible apply Mem.alloc))) hb; clear hb; (try clear F); (try simp only [World.size_alloc] at M); (try simp only [heap_drew] at M); have F := Mem.facts M; simp only [MemFacts] at F; (try simp only [ApartFacts] at F)) | (go_at_call 41; (with_reducible refine (ST _).mono ?_); rintro e w1 ⟨rfl, hb⟩; replace M := Mem.call (w0 := w0) (by repeat' (first | (with_reducible exact M) | (with_reducible apply Mem.drew) | (with_reducible apply Mem.alloc))) hb; clear hb; (try clear F); (try simp only [World.size_alloc] at M); (try simp only [heap_drew] at M); have F := Mem.facts M; simp only [MemFacts] at F; (try simp only [ApartFacts] at F)) | (go_at_call 45; (with_reducible refine (T1 _).mono ?_); rintro e w1 ⟨rfl, hb⟩; replace M := Mem.call (w0 := w0) (by repeat' (first | (with_reducible exact M) | (with_reducible apply Mem.drew) | (with_reducible apply Mem.alloc))) hb; clear hb; (try clear F); (try simp only [World.size_alloc] at M); (try simp only [heap_drew] at M); have F := Mem.facts M; simp only [MemFacts] at F; (try simp only [ApartFacts] at F)) | (go_at_call 58; (with_reducible refine (RT _).mono ?_); rintro e w1 ⟨rfl, hb⟩; replace M := Mem.call (w0 := w0) (by repeat' (first | (with_reducible exact M) | (with_reducible apply Mem.drew) | (with_reducible apply Mem.alloc))) hb; clear hb; (try clear F); (try simp only [World.size_alloc] at M); (try simp only [heap_drew] at M); have F := Mem.facts M; simp only [MemFacts] at F; (try simp only [ApartFacts] at F)) | (go_at_call 44; (with_reducible refine (S1 _).mono ?_); rintro e w1 ⟨rfl, hb⟩; replace M := Mem.call (w0 := w0) (by repeat' (first | (with_reducible exact M) | (with_reducible apply Mem.drew) | (with_reducible apply Mem.alloc))) hb; clear hb; (try clear F); (try simp only [World.size_alloc] at M); (try simp only [heap_drew] at M); have F := Mem.facts M; simp only [MemFacts] at F; (try simp only [ApartFacts] at F)) | (go_at_call 59; (with_reducible refine (K1 _).mono ?_); rintro e w1 ⟨rfl, hb⟩; replace M := Mem.call (w0 := w0) (by repeat' (first | (with_reducible exact M) | (with_reducible apply Mem.drew) | (with_reducible apply Mem.alloc))) hb; clear hb; (try clear F); (try simp only [World.size_alloc] at M); (try simp only [heap_drew] at M); have F := Mem.facts M; simp only [MemFacts] at F; (try simp only [ApartFacts] at F)) | (go_at_call 60; (with_reducible refine (K2 _).mono ?_); rintro e w1 ⟨rfl, hb⟩; replace M := Mem.call (w0 := w0) (by repeat' (first | (with_reducible exact M) | (with_reducible apply Mem.drew) | (with_reducible apply Mem.alloc))) hb; clear hb; (try clear F); (try simp only [World.size_alloc] at M); (try simp only [heap_drew] at M); have F := Mem.facts M; simp only [MemFacts] at F; (try simp only [ApartFacts] at F)) | (go_at_call 61; (with_reducible refine (I1 _).mono ?_); rintro e w1 ⟨rfl, hb⟩; replace M := Mem.call (w0 := w0) (by repeat' (first | (with_reducible exact M) | (with_reducible apply Mem.drew) | (with_reducible apply Mem.alloc))) hb; clear hb; (try clear F); (try simp only [World.size_alloc] at M); (try simp only [heap_drew] at M); have F := Mem.facts M; simp only [MemFacts] at F; (try simp only [ApartFacts] at F)) | (go_at_call 62; (with_reducible refine (I2 _).mono ?_); rintro e w1 ⟨rfl, hb⟩; replace M := Mem.call (w0 := w0) (by repeat' (first | (with_reducible exact M) | (with_reducible apply Mem.drew) | (with_reducible apply Mem.alloc))) hb; clear hb; (try clear F); (try simp only [World.size_alloc] at M); (try simp only [heap_drew] at M); have F := Mem.facts M; simp only [MemFacts] at F; (try simp only [ApartFacts] at F)))
  (go_wp2_with (fail); refine bodyPost_ret (v := .bool true) (by simp [results, Try.results9, go_sem]) rfl ⟨rfl, (Mem.below (w0 := w0) (by repeat' (first | (with_reducible exact M) | (with_reducible apply Mem.drew) | (with_reducible apply Mem.alloc))))⟩)

open Go.ChangeShapes Go.WideShapes Go.ChangeAt
theorem sha2Start_joined : joinedFacts Try.pinned.checked.prog 9 Try.f9 Rows.sha2StartSpec Rows.sha2StartRow = true := and_mk (and_mk (and_mk (and_mk (and_mk (and_mk (and_mk (and_mk (and_mk (and_mk (and_mk (and_mk (and_mk (and_mk (and_mk (and_mk (and_mk (and_mk (and_mk (and_mk (and_mk (and_mk (and_mk (and_mk (and_mk (and_mk (and_mk (and_mk (and_mk (and_mk (and_mk (by as_aux_lemma => kernel_rfl) laidOut) pf_maps) (by as_aux_lemma => kernel_rfl)) (by as_aux_lemma => kernel_rfl)) (by as_aux_lemma => kernel_rfl)) pf_stops) (by as_aux_lemma => kernel_rfl)) pf_knobs) (by as_aux_lemma => kernel_rfl)) (by as_aux_lemma => kernel_rfl)) (by as_aux_lemma => kernel_rfl)) (by as_aux_lemma => kernel_rfl)) (by as_aux_lemma => kernel_rfl)) (by as_aux_lemma => kernel_rfl)) (by as_aux_lemma => kernel_rfl)) (by as_aux_lemma => kernel_rfl)) (by as_aux_lemma => kernel_rfl)) (by as_aux_lemma => kernel_rfl)) (by as_aux_lemma => kernel_rfl)) (by as_aux_lemma => kernel_rfl)) (by as_aux_lemma => kernel_rfl)) pf_plain) (by as_aux_lemma => kernel_rfl)) pf_heard) pf_enter) pf_lifts) pf_make) (by as_aux_lemma => kernel_rfl)) (by as_aux_lemma => kernel_rfl)) (by as_aux_lemma => kernel_rfl)) (by as_aux_lemma => kernel_rfl)
set_option maxRecDepth 100000 in
theorem sha2Start_lifted (os : Os) (started : os.Started) (H : Type) (enc : TypeId × Value → H) :
    ReturnsInHanded {} Try.checked os 9 .any (Rows.sha2StartSpec.pre6 enc Try.prog Try.f9 Rows.sha2StartRow.domain false) (Rows.sha2StartSpec.post enc Try.prog Try.f9 false true false false) := by
  refine returnsInHanded_of_change (C := Try.checked) own started (by kernel_rfl) Try.func9
    (ChangeSpec.witness6 (enc := enc) (C := Try.checked) false ⟨#[], #[.int .i64 0], []⟩ 8 (by kernel_rfl) (by kernel_rfl) (by kernel_rfl) (by kernel_rfl)) ?_
  intro W base args ds gs before hval0 hW hcnd _
  have hval : ∀ (j : Nat) t v, Try.f9.params[j]? = some t → args[j]? = some v → Value.okWide Try.prog W .any base t v := hval0
  have hW' := hW
  obtain ⟨p, q, hA0, hV, rfl, hfz, hnd⟩ := hW
  have hA : DataW.TrodAll enc Try.prog W 0 (fun _ => true) true Try.f9.params.toList args.toList ds p := hA0
  rw [Try.params9] at hA hval
  obtain ⟨v0, vs0, d0, ds0, p0, q0, hargs, rfl, rfl, h0, r0⟩ := trodAll_cons hA
  obtain ⟨rfl, rfl, rfl⟩ := trodAll_nil r0
  obtain rfl : args = #[v0] := by cases args; simp_all
  obtain ⟨rfl, rfl⟩ := trodVars_none hV
  have k0 := h0
  have lt0 : ∀ x ∈ p0, x.block < W.heap.size := by obtain ⟨m, hm⟩ := k0; exact DataW.trod_lt m _ _ _ hm
  obtain ⟨a0, rfl, rfl, rfl, w0⟩ := open_int Try.underlying3 (hval 0 3 v0 rfl rfl) h0
  clear hA0 hval0
  refine (start_walk a0 w0 W).mono fun e W' ⟨he, bel⟩ => ?_
  subst he
  exact ⟨_, rfl, _, _, _, [], _, [], hW', trodAll_mk1 (shut_bool Try.underlying4 _), (trodAll_cons_mk (Below.trod laidOut (by kernel_rfl) (of_decide_eq_true (by kernel_rfl)) k0 bel lt0) trodAll_mk0), rfl, bel.frame _, fun h => by cases h⟩
theorem sha2Start_over : Rows.sha2StartRow.holds Try.pinned (OpenSpec.ofChange Rows.sha2StartSpec) :=
  OpenClaim.holds_of_wide 9 Try.f9 rfl rfl rfl rfl rfl rfl rfl ⟨rfl, rfl, rfl, rfl, rfl⟩ rfl rfl rfl rfl rfl (by kernel_rfl) Try.func9 sha2Start_joined
    (of_decide_eq_true (by kernel_rfl)) (by unfold Func.isWrapper; first | (rw [if_pos (by decide +kernel)]; kernel_rfl) | (rw [if_neg (by decide +kernel)]; exact ⟨rfl, rfl⟩))
    (fun os started H enc _ => sha2Start_lifted os started H enc)
/-- The statement. -/
theorem sha2Start_proved : Rows.Sha2StartSaid := sha2Start_over
#print axioms sha2Start_proved
end Go.Proofs.Ytkgjgdeaclefiaa
