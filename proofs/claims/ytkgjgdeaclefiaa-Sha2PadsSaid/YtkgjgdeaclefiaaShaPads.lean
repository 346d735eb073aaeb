/-
  florinlaw02.Sha2Pads: what is padded is whole blocks.
-/
import Derived.Test.YtkgjgdeaclefiaaShaI
import Derived.Test.YtkgjgdeaclefiaaLft
namespace Go.Proofs.Ytkgjgdeaclefiaa
open Go Go.Proofs Go.RowKit Go.Flo

theorem padV_len (n : Nat) : (padV n).length = 9 + zerosN n := by
  unfold padV
  rw [List.length_cons, List.length_append, List.length_replicate, tailV_length]
  omega
theorem padV_head (n : Nat) : at8 (padV n) 0 = 128 := by rw [at8_get (by rw [padV_len]; omega)]; rfl
theorem padV_zero (n i : Nat) (h1 : 1 ≤ i) (h2 : i < 1 + zerosN n) : at8 (padV n) i = 0 := by
  rw [at8_get (by rw [padV_len]; omega)]
  obtain ⟨j, rfl⟩ : ∃ j, i = j + 1 := ⟨i - 1, by omega⟩
  unfold padV
  rw [List.getElem_cons_succ, List.getElem_append_left (by simp; omega), List.getElem_replicate]
  rfl
theorem padV_tail (n t : Nat) (ht : t < 8) : at8 (padV n) (1 + zerosN n + t) = ((byteV (n * 8 % 2 ^ 64) (7 - t)).toNat : Int) := by
  rw [show 1 + zerosN n + t = (zerosN n + t) + 1 by omega]
  rw [at8_get (by rw [padV_len]; omega)]
  unfold padV
  rw [List.getElem_cons_succ, List.getElem_append_right (by simp)]
  simp [tailV]
def mN (n t : Nat) : Nat := n * 8 % 2 ^ 64 / 2 ^ (8 * (8 - t))
theorem mN_lt (n t : Nat) (ht : t ≤ 8) : mN n t < 2 ^ (8 * t) := by
  unfold mN
  refine Nat.div_lt_of_lt_mul ?_
  rw [← Nat.pow_add, show 8 * (8 - t) + 8 * t = 64 by omega]
  exact Nat.mod_lt _ (by decide)
theorem mN_zero (n : Nat) : mN n 0 = 0 := by have := mN_lt n 0 (by decide); omega
theorem mN_end (n : Nat) : mN n 8 = n * 8 % 2 ^ 64 := by unfold mN; simp
theorem mN_step (n t : Nat) (ht : t < 8) : bits .or .u64 ((mN n t : Int) * 256 % 18446744073709551616) ((byteV (n * 8 % 2 ^ 64) (7 - t)).toNat : Int) = (mN n (t + 1) : Int) := by
  have h1 := mN_lt n t (by omega)
  have h2 : 2 ^ (8 * t) ≤ 2 ^ 56 := Nat.pow_le_pow_right (by decide) (by omega)
  have e : (mN n t : Int) * 256 % 18446744073709551616 = ((mN n t * 256 : Nat) : Int) := by omega
  have hb : (byteV (n * 8 % 2 ^ 64) (7 - t)).toNat = n * 8 % 2 ^ 64 / 2 ^ (8 * (7 - t)) % 256 := by unfold byteV; rw [UInt8.toNat_ofNat']
  rw [e, hb, u64_or_nat _ _ (by omega) (by omega), nat_join 8 _ _ (by omega) (by omega)]
  unfold mN
  rw [show 8 * (8 - t) = 8 * (7 - t) + 8 by omega, show 8 * (8 - (t + 1)) = 8 * (7 - t) by omega, Nat.pow_add, ← Nat.div_div_eq_div_mul]
  omega
structure PL1 (z : Nat) (i : Value) (t : Nat) : Prop where
  le : t ≤ z
  i : i = .int .i64 ((t : Int) + 1)
structure PL2 (n z : Nat) (m i : Value) (t : Nat) : Prop where
  le : t ≤ 8
  i : i = .int .i64 ((z : Int) + 1 + t)
  m : m = .int .u64 (mN n t : Int)
set_option maxRecDepth 100000 in
set_option maxHeartbeats 4000000 in
theorem pads_main (w0 : World) (n : Nat) (hn : n < 18446744073709551616) :
    Calls Try.prog 6 #[.int .u64 (n : Int)] w0 fun e w' => e = .returned (.bool true) ∧ Below w0.heap.size w0 w' := by
  have A1 := awake2
  have P1 := fun w => pad_c n hn w
  obtain ⟨z, hz⟩ : ∃ z, z = zerosN n := ⟨_, rfl⟩
  have hz63 : z ≤ 63 := by rw [hz]; unfold zerosN; omega
  have hk := padV_len n
  have h0 := padV_head n
  rw [← hz] at hk
  have hmod : ((n : Int) % 64 + (z + 9)) % 64 = 0 := by rw [hz]; unfold zerosN; omega
  have hmod2 : ((n : Int) + (9 + z)) % 64 = 0 := by omega
  have HZ := Lib.hid hz
  clear hz
  have HK := Lib.hid hk
  have H0 := Lib.hid h0
  clear hk h0
  have M := Mem.nil w0; have F := Mem.facts M; simp only [MemFacts] at F; (try simp only [ApartFacts] at F)
  go_enter Try.func6, Try.ntmps6
  go_wp2_with (first | (go_at_call 39; (with_reducible refine (A1 _).mono ?_); rintro o w1 ⟨rfl, hb⟩; replace M := Mem.call (w0 := w0) (by repeat' (first | (with_reducible exact M) | (with_reducible apply Mem.drew) | (with_reducible apply Mem.alloc))) hb; clear hb; (try clear F); (try simp only [World.size_alloc] at M); (try simp only [heap_drew] at M); have F := Mem.facts M; simp only [MemFacts] at F; (try simp only [ApartFacts] at F)) | (go_at_call 47; refine (P1 _).mono ?_; rintro o w2 ⟨v, rfl, hv, hb⟩; replace M := Mem.call (w0 := w0) (by repeat' (first | (with_reducible exact M) | (with_reducible apply Mem.drew) | (with_reducible apply Mem.alloc))) hb; clear hb; (try clear F); (try simp only [World.size_alloc] at M); (try simp only [heap_drew] at M); have F := Mem.facts M; simp only [MemFacts] at F; (try simp only [ApartFacts] at F); obtain ⟨p, c, rfl⟩ := hv.shape; obtain ⟨b, off, rfl, _, hbl, hlc, hj⟩ := hv.cells (by rw [HK.out]; omega); have hj0 := hj 0 (by rw [HK.out]; omega); rw [H0.out, Nat.add_zero] at hj0; have HJ := Lib.hid hj; clear hj hv; rw [HK.out] at hlc; rw [HK.out]))
  go_loop [7] (fun i => ∃ t, PL1 z i t) (fun i => (z + 1 - intOf i).toNat)
  case atStart => exact ⟨0, Nat.zero_le _, rfl⟩
  case round =>
    obtain ⟨t, le, rfl⟩ := hrel
    rcases Nat.lt_or_ge t z with hlt | hge
    · have hcell := HJ.out (t + 1) (by rw [HK.out]; omega)
      rw [padV_zero n (t + 1) (by omega) (by have := HZ.out; omega)] at hcell
      have h1 : (t : Int) + 1 < 9 + z - 8 := by omega
      go_wp2
      exact ⟨⟨t + 1, hlt, by rw [Int.natCast_add]; rfl⟩, by simp only [intOf]; omega⟩
    · obtain rfl : t = z := by omega
      have h1 : ¬ ((t : Int) + 1 < 9 + t - 8) := by omega
      have h2 : (9 : Int) + t - 8 = t + 1 := by omega
      go_wp2
      go_loop [6, 8] (fun m i => ∃ s, PL2 n t m i s) (fun _ i => (t + 9 - intOf i).toNat)
      case atStart => exact ⟨0, by decide, by simp, by rw [mN_zero]; rfl⟩
      case round =>
        obtain ⟨s, le2, rfl, rfl⟩ := hrel
        rcases Nat.lt_or_ge s 8 with hlt2 | hge2
        · have hcell := HJ.out (t + 1 + s) (by rw [HK.out]; omega)
          have hp := padV_tail n s hlt2
          rw [← HZ.out, show 1 + t + s = t + 1 + s by omega] at hp
          rw [hp] at hcell
          have hs := mN_step n s hlt2
          have hl1 := mN_lt n s (by omega)
          have hl2 : 2 ^ (8 * s) ≤ 2 ^ 56 := Nat.pow_le_pow_right (by decide) (by omega)
          generalize byteV (n * 8 % 2 ^ 64) (7 - s) = y at *
          have hb := mN_lt n (s + 1) (by omega)
          have h3 : (t : Int) + 1 + s < 9 + t := by omega
          have hm56 : mN n s < 72057594037927936 := by omega
          generalize mN n s = m1 at *
          generalize hm2 : mN n (s + 1) = m2 at *
          have HM2 := Lib.hid hm2
          clear hm2 hp hl1 hl2 hb
          have hy := y.toNat_lt
          go_wp2
          have e : (m1 : Int) * 256 % 18446744073709551616 = (m1 : Int) * 256 := by omega
          rw [e] at hs
          rw [hs]
          exact ⟨⟨s + 1, hlt2, by rw [Int.natCast_add]; congr 1, by rw [HM2.out]⟩, by simp only [intOf]; omega⟩
        · obtain rfl : s = 8 := by omega
          have he : IntKind.u64.wrap ((n : Int) * 8) = (mN n 8 : Int) := by rw [mN_end, IntKind.wrap_u64]; omega
          have hb := M.below
          generalize mN n 8 = m8 at *
          have h3 : ¬ ((t : Int) + 1 + 8 < 9 + t) := by omega
          go_wp2
          go_ret
          exact ⟨rfl, hb⟩
theorem pads_walk (k : Int) (hk : (Lit.int .u64 k).wf = true) (w0 : World) :
    Calls Try.prog 6 #[.int .u64 k] w0 fun e w' => e = .returned (.bool true) ∧ Below w0.heap.size w0 w' := by
  have W := wd_of_wf hk
  obtain ⟨kn, rfl, hk64⟩ : ∃ kn : Nat, k = (kn : Int) ∧ kn < 18446744073709551616 := ⟨k.toNat, by have := W.1; omega, by have := W.2; omega⟩
  exact pads_main w0 kn hk64

open Go.ChangeShapes Go.WideShapes Go.ChangeAt
theorem sha2Pads_joined : joinedFacts Try.pinned.checked.prog 6 Try.f6 Rows.sha2PadsSpec Rows.sha2PadsRow = true := and_mk (and_mk (and_mk (and_mk (and_mk (and_mk (and_mk (and_mk (and_mk (and_mk (and_mk (and_mk (and_mk (and_mk (and_mk (and_mk (and_mk (and_mk (and_mk (and_mk (and_mk (and_mk (and_mk (and_mk (and_mk (and_mk (and_mk (and_mk (and_mk (and_mk (and_mk (by as_aux_lemma => kernel_rfl) laidOut) pf_maps) (by as_aux_lemma => kernel_rfl)) (by as_aux_lemma => kernel_rfl)) (by as_aux_lemma => kernel_rfl)) pf_stops) (by as_aux_lemma => kernel_rfl)) pf_knobs) (by as_aux_lemma => kernel_rfl)) (by as_aux_lemma => kernel_rfl)) (by as_aux_lemma => kernel_rfl)) (by as_aux_lemma => kernel_rfl)) (by as_aux_lemma => kernel_rfl)) (by as_aux_lemma => kernel_rfl)) (by as_aux_lemma => kernel_rfl)) (by as_aux_lemma => kernel_rfl)) (by as_aux_lemma => kernel_rfl)) (by as_aux_lemma => kernel_rfl)) (by as_aux_lemma => kernel_rfl)) (by as_aux_lemma => kernel_rfl)) (by as_aux_lemma => kernel_rfl)) pf_plain) (by as_aux_lemma => kernel_rfl)) pf_heard) pf_enter) pf_lifts) pf_make) (by as_aux_lemma => kernel_rfl)) (by as_aux_lemma => kernel_rfl)) (by as_aux_lemma => kernel_rfl)) (by as_aux_lemma => kernel_rfl)
set_option maxRecDepth 100000 in
theorem sha2Pads_lifted (os : Os) (started : os.Started) (H : Type) (enc : TypeId × Value → H) :
    ReturnsInHanded {} Try.checked os 6 .any (Rows.sha2PadsSpec.pre6 enc Try.prog Try.f6 Rows.sha2PadsRow.domain false) (Rows.sha2PadsSpec.post enc Try.prog Try.f6 false true false false) := by
  refine returnsInHanded_of_change (C := Try.checked) own started (by kernel_rfl) Try.func6
    (ChangeSpec.witness6 (enc := enc) (C := Try.checked) false ⟨#[], #[.int .u64 0], []⟩ 8 (by kernel_rfl) (by kernel_rfl) (by kernel_rfl) (by kernel_rfl)) ?_
  intro W base args ds gs before hval0 hW hcnd _
  have hval : ∀ (j : Nat) t v, Try.f6.params[j]? = some t → args[j]? = some v → Value.okWide Try.prog W .any base t v := hval0
  have hW' := hW
  obtain ⟨p, q, hA0, hV, rfl, hfz, hnd⟩ := hW
  have hA : DataW.TrodAll enc Try.prog W 0 (fun _ => true) true Try.f6.params.toList args.toList ds p := hA0
  rw [Try.params6] at hA hval
  obtain ⟨v0, vs0, d0, ds0, p0, q0, hargs, rfl, rfl, h0, r0⟩ := trodAll_cons hA
  obtain ⟨rfl, rfl, rfl⟩ := trodAll_nil r0
  obtain rfl : args = #[v0] := by cases args; simp_all
  obtain ⟨rfl, rfl⟩ := trodVars_none hV
  have k0 := h0
  have lt0 : ∀ x ∈ p0, x.block < W.heap.size := by obtain ⟨m, hm⟩ := k0; exact DataW.trod_lt m _ _ _ hm
  obtain ⟨a0, rfl, rfl, rfl, w0⟩ := open_int Try.underlying30 (hval 0 30 v0 rfl rfl) h0
  clear hA0 hval0
  refine (pads_walk a0 w0 W).mono fun e W' ⟨he, bel⟩ => ?_
  subst he
  exact ⟨_, rfl, _, _, _, [], _, [], hW', trodAll_mk1 (shut_bool Try.underlying4 _), (trodAll_cons_mk (Below.trod laidOut (by kernel_rfl) (of_decide_eq_true (by kernel_rfl)) k0 bel lt0) trodAll_mk0), rfl, bel.frame _, fun h => by cases h⟩
theorem sha2Pads_over : Rows.sha2PadsRow.holds Try.pinned (OpenSpec.ofChange Rows.sha2PadsSpec) :=
  OpenClaim.holds_of_wide 6 Try.f6 rfl rfl rfl rfl rfl rfl rfl ⟨rfl, rfl, rfl, rfl, rfl⟩ rfl rfl rfl rfl rfl (by kernel_rfl) Try.func6 sha2Pads_joined
    (of_decide_eq_true (by kernel_rfl)) (by unfold Func.isWrapper; first | (rw [if_pos (by decide +kernel)]; kernel_rfl) | (rw [if_neg (by decide +kernel)]; exact ⟨rfl, rfl⟩))
    (fun os started H enc _ => sha2Pads_lifted os started H enc)
/-- The statement. -/
theorem sha2Pads_proved : Rows.Sha2PadsSaid := sha2Pads_over
#print axioms sha2Pads_proved
end Go.Proofs.Ytkgjgdeaclefiaa
