/-
  The law U256Back.
-/
import Derived.Test.YtkgjgdeaclefiaaTexts
namespace Go.Proofs.Ytkgjgdeaclefiaa
open Go Go.Proofs Go.RowKit Go.Flo

/-! ### A number's text, read again -/
def sg8 (n : Int) : UInt8 := UInt8.ofNat n.toNat
theorem strOf_from (ns : List Int) : ∀ a : ByteArray, (ns.foldl (fun r n => r.push (UInt8.ofNat n.toNat)) a).data.toList = a.data.toList ++ ns.map sg8 := by
  induction ns with
  | nil => intro a; simp
  | cons n ns ih =>
    intro a
    rw [List.foldl_cons, ih, List.map_cons]
    show (a.data.push _).toList ++ _ = _
    rw [Array.toList_push, List.append_assoc]
    rfl
theorem strOf_list (ns : List Int) : (strOf ns).data.toList = ns.map sg8 := by
  unfold strOf
  rw [strOf_from]
  rfl
theorem hexd_sgn {d : Nat} (h : d < 16) : hexd (sg8 (sgn d)).toNat = some d := by
  have key : ∀ d : Fin 16, hexd (sg8 (sgn d.1)).toNat = some d.1 := by decide +kernel
  exact key ⟨d, h⟩
theorem sgn_ne {d : Nat} (h : d < 16) (h0 : d ≠ 0) : ((sg8 (sgn d)).toNat : Int) ≠ 48 := by
  have key : ∀ d : Fin 16, d.1 ≠ 0 → (sg8 (sgn d.1)).toNat ≠ 48 := by decide +kernel
  have := key ⟨d, h⟩ h0
  simp only at this
  omega
theorem hexL_length (m K t : Nat) : (hexL m K t).length = t := by simp [hexL]
theorem hexN_hexL (m K : Nat) : ∀ t, t ≤ K + 1 → hexN ((hexL m K t).map sg8) = m / 16 ^ (K + 1 - t) % 16 ^ t
  | 0, _ => by simp [hexL, hexN_nil, Nat.mod_one]
  | t + 1, h => by
    have ih := hexN_hexL m K t (by omega)
    have hv : hexv (sg8 (sgn (m / 16 ^ (K - t) % 16))) = m / 16 ^ (K - t) % 16 := by unfold hexv; rw [hexd_sgn (Nat.mod_lt _ (by decide))]; rfl
    rw [hexL_succ, List.map_append, List.map_cons, List.map_nil, hexN_snoc, ih, hv, show K + 1 - t = (K - t) + 1 by omega, show K + 1 - (t + 1) = K - t by omega]
    rw [Nat.pow_succ 16 (K - t), ← Nat.div_div_eq_div_mul]
    generalize m / 16 ^ (K - t) = x
    rw [Nat.pow_succ, Nat.mul_comm (16 ^ t) 16, Nat.mod_mul]
    omega
theorem hexL_all (m K t : Nat) : ((hexL m K t).map sg8).all isHex = true := by
  rw [List.all_eq_true]
  intro x hx
  obtain ⟨n, hn, rfl⟩ := List.mem_map.1 hx
  unfold hexL at hn
  obtain ⟨s, _, rfl⟩ := List.mem_map.1 hn
  unfold isHex
  rw [hexd_sgn (Nat.mod_lt _ (by decide))]
  rfl
theorem hexS_list (m : Nat) : (hexS m).data.toList = (hexL m ((lenN m - 1) / 4) ((lenN m - 1) / 4 + 1)).map sg8 := strOf_list _
theorem hexS_N {m : Nat} : hexN (hexS m).data.toList = m := by
  rw [hexS_list, hexN_hexL m _ _ (Nat.le_refl _), Nat.sub_self, Nat.pow_zero, Nat.div_one]
  refine Nat.mod_eq_of_lt ?_
  rw [show (16 : Nat) ^ ((lenN m - 1) / 4 + 1) = 2 ^ (4 * ((lenN m - 1) / 4 + 1)) by rw [Nat.pow_mul]]
  exact lenN_le.1 (by omega)
theorem hexS_length (m : Nat) : (hexS m).data.toList.length = (lenN m - 1) / 4 + 1 := by rw [hexS_list, List.length_map, hexL_length]
theorem hexS_size (m : Nat) : (hexS m).size = (lenN m - 1) / 4 + 1 := by rw [← hexS_length]; simp
theorem parse_hexS {m : Nat} (hm : m < top) : parseHex (hexS m).data.toList = (m, 0) := by
  have h0 : (hexS m).data.toList ≠ [] := fun h => by have := hexS_length m; rw [h] at this; cases this
  have ha : (hexS m).data.toList.all isHex = true := by rw [hexS_list]; exact hexL_all _ _ _
  unfold parseHex
  rw [if_neg (fun h => h.elim h0 (fun h => h ha)), hexS_N, if_neg (by omega)]
theorem hexN_zeros (l : List UInt8) : hexN (48 :: 48 :: l) = hexN l := by
  unfold hexN
  rw [List.foldl_cons, List.foldl_cons]
  rfl
theorem parse_zeros {l : List UInt8} {m : Nat} (h : parseHex l = (m, 0)) : parseHex (48 :: 48 :: l) = (m, 0) := by
  unfold parseHex at *
  split at h
  · cases h
  · rename_i hn
    split at h
    · cases h
    · rename_i ht
      have ha : l.all isHex = true := by
        cases hc : l.all isHex with
        | true => rfl
        | false => exact (hn (.inr (by rw [hc]; decide))).elim
      rw [if_neg, hexN_zeros, if_neg ht]
      · exact h
      · rintro (h1 | h1)
        · cases h1
        · apply h1
          rw [List.all_cons, List.all_cons, ha]
          rfl
theorem hexS_first {m : Nat} (h1 : (hexS m).size ≠ 1) (h : 0 < (hexS m).size) : ((((hexS m)[0]'h).toNat : Int) != 48) = true := by
  rw [bne_iff_ne]
  have hs := hexS_size m
  have hm : m ≠ 0 := fun e => by subst e; rw [Flo.lenN_zero] at hs; exact h1 hs
  have hl : (hexS m).data.toList[0]? = some (sg8 (sgn (m / 16 ^ ((lenN m - 1) / 4) % 16))) := by
    rw [hexS_list]
    simp [hexL, List.range_succ_eq_map]
  have he : (hexS m)[0]'h = sg8 (sgn (m / 16 ^ ((lenN m - 1) / 4) % 16)) := by
    have h2 : (hexS m).data.toList[0]? = some ((hexS m)[0]'h) := by
      rw [List.getElem?_eq_getElem (by simpa using h)]
      rfl
    rw [h2] at hl
    exact Option.some.inj hl
  rw [he]
  exact sgn_ne (Nat.mod_lt _ (by decide)) (nib_first m hm)

set_option maxRecDepth 100000 in
set_option maxHeartbeats 4000000 in
theorem back_main (m : Nat) (s s2 : ByteArray) (q : List UInt8) (w0 : World) (hq : q.length = 32) (hs2 : ByteArray.mk #[48, 48] ++ s = s2)
    (B1 : Gives 81 #[uV m] (.agg (bA q)))
    (F1 : ∀ b w, Rd8 w (.slice (some ⟨b, 0, none⟩) 32 32) q → Calls Try.prog 77 #[.slice (some ⟨b, 0, none⟩) 32 32] w fun o w' => o = .returned (.tuple #[uV m, .int .i64 0]) ∧ Below w.heap.size w w')
    (X1 : Gives 83 #[uV m] (.string s)) (H1 : Gives 79 #[.string s] (.tuple #[uV m, .int .i64 0])) (H2 : Gives 79 #[.string s2] (.tuple #[uV m, .int .i64 0]))
    (h0 : 0 < s.size) (hs64 : s.size ≤ 64) (h : ((s.size : Int) == 1) = true ∨ (((s.size : Int) == 1) = false ∧ (((s[0]'h0).toNat : Int) != 48) = true)) :
    Calls Try.prog 13 #[uV m] w0 fun e w' => e = .returned (.bool true) ∧ Below w0.heap.size w0 w' := by
  have hd : (0 : Int) < (s.size : Int) := by omega
  rcases h with h | ⟨h, h1⟩
  all_goals
    have M := Mem.nil w0; have F := Mem.facts M; simp only [MemFacts] at F; (try simp only [ApartFacts] at F)
    go_enter Try.func13, Try.ntmps13
    go_wp2_with (first | (go_at_call 33; (with_reducible refine (awake1 _).mono ?_); rintro e w1 ⟨rfl, hb⟩; replace M := Mem.call (w0 := w0) (by repeat' (first | (with_reducible exact M) | (with_reducible apply Mem.drew) | (with_reducible apply Mem.alloc))) hb; clear hb; (try clear F); (try simp only [World.size_alloc] at M); (try simp only [heap_drew] at M); have F := Mem.facts M; simp only [MemFacts] at F; (try simp only [ApartFacts] at F)) | (go_at_call 34; (with_reducible refine (ours1_c _ _).mono ?_); rintro e w1 ⟨rfl, hb⟩; replace M := Mem.call (w0 := w0) (by repeat' (first | (with_reducible exact M) | (with_reducible apply Mem.drew) | (with_reducible apply Mem.alloc))) hb; clear hb; (try clear F); (try simp only [World.size_alloc] at M); (try simp only [heap_drew] at M); have F := Mem.facts M; simp only [MemFacts] at F; (try simp only [ApartFacts] at F)) | (go_at_call 81; (with_reducible refine (B1 _).mono ?_); rintro e w1 ⟨rfl, hb⟩; replace M := Mem.call (w0 := w0) (by repeat' (first | (with_reducible exact M) | (with_reducible apply Mem.drew) | (with_reducible apply Mem.alloc))) hb; clear hb; (try clear F); (try simp only [World.size_alloc] at M); (try simp only [heap_drew] at M); have F := Mem.facts M; simp only [MemFacts] at F; (try simp only [ApartFacts] at F)) | (go_at_call 77; (refine (F1 _ _ (Mem.rd8 (w0 := w0) 0 (by repeat' (first | (with_reducible exact M) | (with_reducible apply Mem.drew) | (with_reducible apply Mem.alloc))) (by rfl) hq (by decide))).mono ?_); rintro e w1 ⟨rfl, hb⟩; replace M := Mem.call (w0 := w0) (by repeat' (first | (with_reducible exact M) | (with_reducible apply Mem.drew) | (with_reducible apply Mem.alloc))) hb; clear hb; (try clear F); (try simp only [World.size_alloc] at M); (try simp only [heap_drew] at M); have F := Mem.facts M; simp only [MemFacts] at F; (try simp only [ApartFacts] at F)) | (go_at_call 83; (with_reducible refine (X1 _).mono ?_); rintro e w1 ⟨rfl, hb⟩; replace M := Mem.call (w0 := w0) (by repeat' (first | (with_reducible exact M) | (with_reducible apply Mem.drew) | (with_reducible apply Mem.alloc))) hb; clear hb; (try clear F); (try simp only [World.size_alloc] at M); (try simp only [heap_drew] at M); have F := Mem.facts M; simp only [MemFacts] at F; (try simp only [ApartFacts] at F)) | (go_at_call 79; (first | (with_reducible refine (H1 _).mono ?_) | (with_reducible refine (H2 _).mono ?_)); rintro e w1 ⟨rfl, hb⟩; replace M := Mem.call (w0 := w0) (by repeat' (first | (with_reducible exact M) | (with_reducible apply Mem.drew) | (with_reducible apply Mem.alloc))) hb; clear hb; (try clear F); (try simp only [World.size_alloc] at M); (try simp only [heap_drew] at M); have F := Mem.facts M; simp only [MemFacts] at F; (try simp only [ApartFacts] at F)) | (refine wl_alloc rfl 22 rfl hashZ ?_) | (refine wl_store rfl 22 _ _ rfl hashT rfl rfl (heap_alloc_new _ _) (by rw [bA_size]; first | assumption | rfl) (by rw [bA_size]; first | assumption | rfl) (bA_one _) ?_; rw [World.setRow_alloc_new]))
    (go_wp2_with (fail); refine bodyPost_ret (v := .bool true) (by simp [results, Try.results13, go_sem]) rfl ⟨rfl, (Mem.below (w0 := w0) (by repeat' (first | (with_reducible exact M) | (with_reducible apply Mem.drew) | (with_reducible apply Mem.alloc))))⟩)
theorem back_walk (w0 : World) (m : Nat) (hm : m < top) :
    Calls Try.prog 13 #[uV m] w0 fun e w' => e = .returned (.bool true) ∧ Below w0.heap.size w0 w' := by
  have hs := hexS_size m
  have h0 : 0 < (hexS m).size := by omega
  refine back_main m (hexS m) _ (bytesOf m) w0 (bytesOf_length m) rfl (bytes_c m) (fun b w hr => ?_) (hex_c m hm) (fun w => ?_) (fun w => ?_) h0 (by have := lenN_top hm; omega) ?_
  · have := frombytes_c _ (bytesOf m) (by rw [bytesOf_length]; exact Nat.le_refl _) w hr
    rw [beN_bytesOf hm] at this
    exact this
  · have := fromhex_c (hexS m) w
    rw [parse_hexS hm] at this
    exact this
  · have := fromhex_c (ByteArray.mk #[48, 48] ++ hexS m) w
    have e : (ByteArray.mk #[48, 48] ++ hexS m).data.toList = 48 :: 48 :: (hexS m).data.toList := by simp
    rw [e, parse_zeros (parse_hexS hm)] at this
    exact this
  · by_cases h1 : (hexS m).size = 1
    · exact .inl (by rw [beq_iff_eq]; omega)
    · exact .inr ⟨by rw [beq_eq_false_iff_ne]; omega, hexS_first h1 h0⟩

open Go.ChangeShapes Go.WideShapes Go.ChangeAt
theorem u256Back_joined : joinedFacts Try.pinned.checked.prog 13 Try.f13 Rows.u256BackSpec Rows.u256BackRow = true := and_mk (and_mk (and_mk (and_mk (and_mk (and_mk (and_mk (and_mk (and_mk (and_mk (and_mk (and_mk (and_mk (and_mk (and_mk (and_mk (and_mk (and_mk (and_mk (and_mk (and_mk (and_mk (and_mk (and_mk (and_mk (and_mk (and_mk (and_mk (and_mk (and_mk (and_mk (by as_aux_lemma => kernel_rfl) laidOut) pf_maps) (by as_aux_lemma => kernel_rfl)) (by as_aux_lemma => kernel_rfl)) (by as_aux_lemma => kernel_rfl)) pf_stops) (by as_aux_lemma => kernel_rfl)) pf_knobs) (by as_aux_lemma => kernel_rfl)) (by as_aux_lemma => kernel_rfl)) (by as_aux_lemma => kernel_rfl)) (by as_aux_lemma => kernel_rfl)) (by as_aux_lemma => kernel_rfl)) (by as_aux_lemma => kernel_rfl)) (by as_aux_lemma => kernel_rfl)) (by as_aux_lemma => kernel_rfl)) (by as_aux_lemma => kernel_rfl)) (by as_aux_lemma => kernel_rfl)) (by as_aux_lemma => kernel_rfl)) (by as_aux_lemma => kernel_rfl)) (by as_aux_lemma => kernel_rfl)) pf_plain) (by as_aux_lemma => kernel_rfl)) pf_heard) pf_enter) pf_lifts) pf_make) (by as_aux_lemma => kernel_rfl)) (by as_aux_lemma => kernel_rfl)) (by as_aux_lemma => kernel_rfl)) (by as_aux_lemma => kernel_rfl)
set_option maxRecDepth 100000 in
theorem u256Back_lifted (os : Os) (started : os.Started) (H : Type) (enc : TypeId × Value → H) :
    ReturnsInHanded {} Try.checked os 13 .any (Rows.u256BackSpec.pre6 enc Try.prog Try.f13 Rows.u256BackRow.domain false) (Rows.u256BackSpec.post enc Try.prog Try.f13 false true false false) := by
  refine returnsInHanded_of_change (C := Try.checked) own started (by kernel_rfl) Try.func13
    (ChangeSpec.witness6 (enc := enc) (C := Try.checked) false ⟨#[], #[.agg #[.int .u64 0, .int .u64 0, .int .u64 0, .int .u64 0]], []⟩ 8 (by kernel_rfl) (by kernel_rfl) (by kernel_rfl) (by kernel_rfl)) ?_
  intro W base args ds gs before hval0 hW hcnd _
  have hval : ∀ (j : Nat) t v, Try.f13.params[j]? = some t → args[j]? = some v → Value.okWide Try.prog W .any base t v := hval0
  have hW' := hW
  obtain ⟨p, q, hA0, hV, rfl, hfz, hnd⟩ := hW
  have hA : DataW.TrodAll enc Try.prog W 0 (fun _ => true) true Try.f13.params.toList args.toList ds p := hA0
  rw [Try.params13] at hA hval
  obtain ⟨v0, vs0, d0, ds0, p0, q0, hargs, rfl, rfl, h0, r0⟩ := trodAll_cons hA
  obtain ⟨rfl, rfl, rfl⟩ := trodAll_nil r0
  obtain rfl : args = #[v0] := by cases args; simp_all
  obtain ⟨rfl, rfl⟩ := trodVars_none hV
  have k0 := h0
  have lt0 : ∀ x ∈ p0, x.block < W.heap.size := by obtain ⟨m, hm⟩ := k0; exact DataW.trod_lt m _ _ _ hm
  obtain ⟨a0, w0, rfl⟩ := open_four Try.underlying35 (by kernel_rfl) (hval 0 35 v0 rfl rfl) h0
  clear hA0 hval0
  refine (back_walk W a0 w0).mono fun e W' ⟨he, bel⟩ => ?_
  subst he
  exact ⟨_, rfl, _, _, _, [], _, [], hW', trodAll_mk1 (shut_bool Try.underlying4 _), (trodAll_cons_mk (Below.trod laidOut (by kernel_rfl) (of_decide_eq_true (by kernel_rfl)) k0 bel lt0) trodAll_mk0), rfl, bel.frame _, fun h => by cases h⟩
theorem u256Back_over : Rows.u256BackRow.holds Try.pinned (OpenSpec.ofChange Rows.u256BackSpec) :=
  OpenClaim.holds_of_wide 13 Try.f13 rfl rfl rfl rfl rfl rfl rfl ⟨rfl, rfl, rfl, rfl, rfl⟩ rfl rfl rfl rfl rfl (by kernel_rfl) Try.func13 u256Back_joined
    (of_decide_eq_true (by kernel_rfl)) (by unfold Func.isWrapper; first | (rw [if_pos (by decide +kernel)]; kernel_rfl) | (rw [if_neg (by decide +kernel)]; exact ⟨rfl, rfl⟩))
    (fun os started H enc _ => u256Back_lifted os started H enc)
/-- The statement. -/
theorem u256Back_proved : Rows.U256BackSaid := u256Back_over
#print axioms u256Back_proved
end Go.Proofs.Ytkgjgdeaclefiaa
