/-
  florinlaw03.HashPairs: for any two hashes the law answers true.
-/
import Derived.Test.YtkgjgdeaclefiaaHPrs
import Derived.Test.YtkgjgdeaclefiaaLft
namespace Go.Proofs.Ytkgjgdeaclefiaa
open Go Go.Proofs Go.RowKit Go.Flo

theorem txt8_snoc (r : List UInt8) (x : UInt8) : txt8 (r ++ [x]) = txt8 r ++ [sg8 (sgn (x.toNat / 16)), sg8 (sgn (x.toNat % 16))] := by simp [txt8, two]
theorem beN_snoc1 (r : List UInt8) (x : UInt8) : beN (r ++ [x]) = beN r * 256 + x.toNat := by unfold beN; rw [List.foldl_append]; rfl
theorem hexL_up (m x K : Nat) (hx : x < 256) : ∀ t, t ≤ K + 1 → hexL (m * 256 + x) (K + 2) t = hexL m K t := fun t ht => by
  unfold hexL
  refine List.map_congr_left fun s hs => ?_
  have hs : s < t := List.mem_range.1 hs
  rw [show K + 2 - s = (K - s) + 2 by omega, Nat.pow_add, Nat.mul_comm (16 ^ (K - s)), ← Nat.div_div_eq_div_mul, show (m * 256 + x) / 16 ^ 2 = m by omega]
theorem txt8_hexL : ∀ (n : Nat) (r : List UInt8), r.length = n + 1 → txt8 r = (hexL (beN r) (2 * n + 1) (2 * n + 2)).map sg8
  | 0, [x], _ => by
    have := x.toNat_lt
    have e : beN [x] = x.toNat := by simp [beN]
    rw [e]
    show [sg8 (sgn (x.toNat / 16)), sg8 (sgn (x.toNat % 16))] = [sg8 (sgn (x.toNat / 16 ^ 1 % 16)), sg8 (sgn (x.toNat / 16 ^ 0 % 16))]
    rw [Nat.pow_one, Nat.pow_zero, Nat.div_one, Nat.mod_eq_of_lt (show x.toNat / 16 < 16 by omega)]
  | n + 1, r, h => by
    have hne : r ≠ [] := fun e => by rw [e] at h; simp at h
    obtain ⟨q, x, rfl⟩ : ∃ q x, r = q ++ [x] := ⟨r.dropLast, r.getLast hne, (List.dropLast_concat_getLast hne).symm⟩
    have hx := x.toNat_lt
    have ih := txt8_hexL n q (by simpa using h)
    have e : hexL (beN q * 256 + x.toNat) (2 * n + 1 + 2) (2 * n + 2 + 1 + 1) = hexL (beN q) (2 * n + 1) (2 * n + 2) ++ [sgn (x.toNat / 16)] ++ [sgn (x.toNat % 16)] := by
      rw [hexL_succ, hexL_succ, hexL_up _ _ _ hx _ (by omega)]
      rw [show 2 * n + 1 + 2 - (2 * n + 2) = 1 by omega, show 2 * n + 1 + 2 - (2 * n + 2 + 1) = 0 by omega, Nat.pow_one, Nat.pow_zero, Nat.div_one]
      rw [show (beN q * 256 + x.toNat) / 16 % 16 = x.toNat / 16 by omega, show (beN q * 256 + x.toNat) % 16 = x.toNat % 16 by omega]
    rw [txt8_snoc, beN_snoc1, ih, show 2 * (n + 1) + 2 = 2 * n + 2 + 1 + 1 by omega, show 2 * (n + 1) + 1 = (2 * n + 1) + 2 by omega, e, List.map_append, List.map_append, List.append_assoc]
    rfl
theorem hexL_zeros (m K d : Nat) (h : m < 16 ^ (K + 1)) : hexL m (K + d) (d + (K + 1)) = List.replicate d (sgn 0) ++ hexL m K (K + 1) := by
  unfold hexL
  rw [List.range_add, List.map_append, List.map_map]
  congr 1
  · rw [List.eq_replicate_iff]
    refine ⟨by simp, fun y hy => ?_⟩
    obtain ⟨s, hs, rfl⟩ := List.mem_map.1 hy
    have hs : s < d := List.mem_range.1 hs
    have : m < 16 ^ (K + d - s) := Nat.lt_of_lt_of_le h (Nat.pow_le_pow_right (by decide) (by omega))
    rw [Nat.div_eq_of_lt this]
  · refine List.map_congr_left fun s _ => ?_
    show sgn (m / 16 ^ (K + d - (d + s)) % 16) = _
    rw [show K + d - (d + s) = K - s by omega]
theorem txtS_hexS {k : List UInt8} (hk : k.length = 32) : (hexS (beN k.reverse)).size ≤ 64 ∧ (txtS k).data.toList = List.replicate (64 - (hexS (beN k.reverse)).size) 48 ++ (hexS (beN k.reverse)).data.toList ∧ hexN (txtS k).data.toList = beN k.reverse := by
  have hr : k.reverse.length = 31 + 1 := by rw [List.length_reverse, hk]
  have hm : beN k.reverse < top := beN_top (by omega)
  have hlen : lenN (beN k.reverse) ≤ 256 := lenN_le.2 (by unfold top at hm; exact hm)
  generalize hM : beN k.reverse = m at *
  have hs := hexS_size m
  have hK : (lenN m - 1) / 4 ≤ 63 := by omega
  have hlt : m < 16 ^ ((lenN m - 1) / 4 + 1) := by
    rw [show (16 : Nat) ^ ((lenN m - 1) / 4 + 1) = 2 ^ (4 * ((lenN m - 1) / 4 + 1)) by rw [Nat.pow_mul]]
    exact lenN_le.1 (by omega)
  have h1 := txt8_hexL 31 k.reverse hr
  rw [hM] at h1
  have h2 := hexL_zeros m ((lenN m - 1) / 4) (63 - (lenN m - 1) / 4) hlt
  rw [show (lenN m - 1) / 4 + (63 - (lenN m - 1) / 4) = 63 by omega, show 63 - (lenN m - 1) / 4 + ((lenN m - 1) / 4 + 1) = 64 by omega] at h2
  have e : 2 * 31 + 1 = 63 := rfl
  have e2 : 2 * 31 + 2 = 64 := rfl
  rw [e, e2] at h1
  refine ⟨by omega, ?_, ?_⟩
  · rw [txtS_list, h1, h2, List.map_append, hexS_list, hs, List.map_replicate, show 64 - ((lenN m - 1) / 4 + 1) = 63 - (lenN m - 1) / 4 by omega]
    rfl
  · rw [txtS_list, h1, hexN_hexL m 63 64 (by decide), Nat.sub_self, Nat.pow_zero, Nat.div_one]
    exact Nat.mod_eq_of_lt (by unfold top at hm; exact Nat.lt_of_lt_of_eq hm (by decide +kernel))
theorem hpairs_walk (w0 : World) (k l : List UInt8) (hk : k.length = 32) (hl : l.length = 32) :
    Calls Try.prog 26 #[.agg (bA k), .agg (bA l)] w0 fun e w' => e = .returned (.bool true) ∧ Below w0.heap.size w0 w' := by
  obtain ⟨h1, h2, h3⟩ := txtS_hexS hk
  have hm : beN k.reverse < top := beN_top (by rw [List.length_reverse]; omega)
  have hts := txtS_size hk
  refine hpairs_main k l (dblV (k ++ l)) hk hl (dblV_length _) (beN k.reverse) (hexS (beN k.reverse)).size (hexS (beN k.reverse)) (txtS k) w0 hts ?_ ?_ rfl h1 (fun w => hnumber_c k hk w) (fun w => hex_c _ hm w) (fun w => htext_c k hk w) (fun w => ?_) (fun w => pair_main k l hk hl w) (fun w => ?_) (fun w v hv => double_c v (k ++ l) (by rw [List.length_append, hk, hl]; decide) w hv)
  · intro i hi hlt
    have e : (txtS k)[i] = (txtS k).data.toList[i]'(by simpa using hi) := by simp; rfl
    rw [e]
    simp only [h2]
    rw [List.getElem_append_left (by simpa using hlt)]
    simp
  · rw [beq_iff_eq, ByteArray.toList_eq, ByteArray.toList_eq, ByteArray.data_extract, Array.toList_extract, h2]
    simp only [List.extract, List.drop_append, List.length_replicate, List.drop_replicate, Nat.sub_self, List.replicate_zero, List.nil_append, List.drop_zero]
    exact List.take_of_length_le (by simp; omega)
  · have h := fromhex_c (txtS k) w
    have e : parseHex (txtS k).data.toList = (beN k.reverse, 0) := by
      unfold parseHex
      have hall : (txtS k).data.toList.all isHex = true := by rw [txtS_list]; exact txt8_all _
      have hne : (txtS k).data.toList ≠ [] := fun e => by
        have := congrArg List.length e
        rw [txtS_list, txt8_length, List.length_reverse, hk] at this
        simp at this
      rw [if_neg (fun h => h.elim hne (fun h => h hall)), h3, if_neg (by omega)]
    rw [e] at h
    exact h
  · have h := hfromnumber_c (beN k.reverse) w
    rw [bytesOf_beN (by rw [List.length_reverse]; exact hk), List.reverse_reverse] at h
    exact h

open Go.ChangeShapes Go.WideShapes Go.ChangeAt
theorem hashPairs_joined : joinedFacts Try.pinned.checked.prog 26 Try.f26 Rows.hashPairsSpec Rows.hashPairsRow = true := and_mk (and_mk (and_mk (and_mk (and_mk (and_mk (and_mk (and_mk (and_mk (and_mk (and_mk (and_mk (and_mk (and_mk (and_mk (and_mk (and_mk (and_mk (and_mk (and_mk (and_mk (and_mk (and_mk (and_mk (and_mk (and_mk (and_mk (and_mk (and_mk (and_mk (and_mk (by as_aux_lemma => kernel_rfl) laidOut) pf_maps) (by as_aux_lemma => kernel_rfl)) (by as_aux_lemma => kernel_rfl)) (by as_aux_lemma => kernel_rfl)) pf_stops) (by as_aux_lemma => kernel_rfl)) pf_knobs) (by as_aux_lemma => kernel_rfl)) (by as_aux_lemma => kernel_rfl)) (by as_aux_lemma => kernel_rfl)) (by as_aux_lemma => kernel_rfl)) (by as_aux_lemma => kernel_rfl)) (by as_aux_lemma => kernel_rfl)) (by as_aux_lemma => kernel_rfl)) (by as_aux_lemma => kernel_rfl)) (by as_aux_lemma => kernel_rfl)) (by as_aux_lemma => kernel_rfl)) (by as_aux_lemma => kernel_rfl)) (by as_aux_lemma => kernel_rfl)) (by as_aux_lemma => kernel_rfl)) pf_plain) (by as_aux_lemma => kernel_rfl)) pf_heard) pf_enter) pf_lifts) pf_make) (by as_aux_lemma => kernel_rfl)) (by as_aux_lemma => kernel_rfl)) (by as_aux_lemma => kernel_rfl)) (by as_aux_lemma => kernel_rfl)
set_option maxRecDepth 100000 in
theorem hashPairs_lifted (os : Os) (started : os.Started) (H : Type) (enc : TypeId × Value → H) :
    ReturnsInHanded {} Try.checked os 26 .any (Rows.hashPairsSpec.pre6 enc Try.prog Try.f26 Rows.hashPairsRow.domain false) (Rows.hashPairsSpec.post enc Try.prog Try.f26 false true false false) := by
  refine returnsInHanded_of_change (C := Try.checked) own started (by kernel_rfl) Try.func26
    (ChangeSpec.witness6 (enc := enc) (C := Try.checked) false ⟨#[], #[.agg (Array.replicate 32 (.int .u8 0)), .agg (Array.replicate 32 (.int .u8 0))], []⟩ 8 (by kernel_rfl) (by kernel_rfl) (by kernel_rfl) (by kernel_rfl)) ?_
  intro W base args ds gs before hval0 hW hcnd _
  have hval : ∀ (j : Nat) t v, Try.f26.params[j]? = some t → args[j]? = some v → Value.okWide Try.prog W .any base t v := hval0
  have hW' := hW
  obtain ⟨p, q, hA0, hV, rfl, hfz, hnd⟩ := hW
  have hA : DataW.TrodAll enc Try.prog W 0 (fun _ => true) true Try.f26.params.toList args.toList ds p := hA0
  rw [Try.params26] at hA hval
  obtain ⟨v0, vs0, d0, ds0, p0, q0, hargs, rfl, rfl, h0, r0⟩ := trodAll_cons hA
  obtain ⟨v1, vs1, d1, ds1, p1, q1, rfl, rfl, rfl, h1, r1⟩ := trodAll_cons r0
  obtain ⟨rfl, rfl, rfl⟩ := trodAll_nil r1
  obtain rfl : args = #[v0, v1] := by cases args; simp_all
  obtain ⟨rfl, rfl⟩ := trodVars_none hV
  have k0 := h0
  have lt0 : ∀ x ∈ p0, x.block < W.heap.size := by obtain ⟨m, hm⟩ := k0; exact DataW.trod_lt m _ _ _ hm
  have k1 := h1
  have lt1 : ∀ x ∈ p1, x.block < W.heap.size := by obtain ⟨m, hm⟩ := k1; exact DataW.trod_lt m _ _ _ hm
  obtain ⟨a0, w0, rfl⟩ := open_hash Try.underlying23 (by kernel_rfl) (hval 0 23 v0 rfl rfl) h0
  obtain ⟨a1, w1, rfl⟩ := open_hash Try.underlying23 (by kernel_rfl) (hval 1 23 v1 rfl rfl) h1
  clear hA0 hval0
  refine (hpairs_walk W a0 a1 w0 w1).mono fun e W' ⟨he, bel⟩ => ?_
  subst he
  exact ⟨_, rfl, _, _, _, [], _, [], hW', trodAll_mk1 (shut_bool Try.underlying4 _), (trodAll_cons_mk (Below.trod laidOut (by kernel_rfl) (of_decide_eq_true (by kernel_rfl)) k0 bel lt0) (trodAll_cons_mk (Below.trod laidOut (by kernel_rfl) (of_decide_eq_true (by kernel_rfl)) k1 bel lt1) trodAll_mk0)), rfl, bel.frame _, fun h => by cases h⟩
theorem hashPairs_over : Rows.hashPairsRow.holds Try.pinned (OpenSpec.ofChange Rows.hashPairsSpec) :=
  OpenClaim.holds_of_wide 26 Try.f26 rfl rfl rfl rfl rfl rfl rfl ⟨rfl, rfl, rfl, rfl, rfl⟩ rfl rfl rfl rfl rfl (by kernel_rfl) Try.func26 hashPairs_joined
    (of_decide_eq_true (by kernel_rfl)) (by unfold Func.isWrapper; first | (rw [if_pos (by decide +kernel)]; kernel_rfl) | (rw [if_neg (by decide +kernel)]; exact ⟨rfl, rfl⟩))
    (fun os started H enc _ => hashPairs_lifted os started H enc)
/-- The statement. -/
theorem hashPairs_proved : Rows.HashPairsSaid := hashPairs_over
#print axioms hashPairs_proved
end Go.Proofs.Ytkgjgdeaclefiaa
