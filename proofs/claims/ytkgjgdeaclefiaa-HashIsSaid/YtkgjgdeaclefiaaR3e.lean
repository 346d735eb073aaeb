/-
  florinref03: Parse.
-/
import Derived.Test.YtkgjgdeaclefiaaHashP
import Derived.Test.YtkgjgdeaclefiaaShaF
namespace Go.Proofs.Ytkgjgdeaclefiaa
open Go Go.Proofs Go.RowKit Go.Flo

theorem unf_two (l : List UInt8) (t : Nat) (ht : t < 32) (j : Nat) (hj : j < 32) : (if j = 31 - t then UInt8.ofNat (hv l (2 * t) * 16 + hv l (2 * t + 1)) else unf l (2 * t) j) = unf l (2 * t + 2) j := by
  unfold unf
  by_cases h : j = 31 - t
  · subst h
    rw [if_pos rfl, if_pos (by omega), show 31 - (31 - t) = t by omega]
  · rw [if_neg h]
    by_cases h1 : 31 - j < t
    · rw [if_pos (by omega), if_pos (by omega)]
    · rw [if_neg (by omega), if_neg (by omega), if_neg (by omega), if_neg (by omega)]
theorem hex_pair (a b : Nat) (ha : a < 16) (hb : b < 16) : (a : Int) * 16 + (b : Int) = (((UInt8.ofNat (a * 16 + b)).toNat : Nat) : Int) := by
  rw [UInt8.toNat_ofNat']; omega
theorem r3digit_any (c : Nat) : ∃ z : Int, ∀ w, Calls Try.prog 134 #[.int .u8 (c : Int)] w fun e w' => e = .returned (.int .i64 z) ∧ Below w.heap.size w w' := by
  rcases h : hexd c with _ | d
  · exact ⟨_, r3digit_none c h⟩
  · exact ⟨_, r3digit_some c d h⟩
structure R3p (s : ByteArray) (w0 : World) (i : Value) (wr : World) (t : Nat) : Prop where
  le : t ≤ 32
  at_ : i = .int .i64 ((2 * t : Nat) : Int)
  all : (s.data.toList.take (2 * t)).all isHex = true
  mem : Mem w0 wr [.c (w0.heap.size + 1) (bA (tab 32 (unf s.data.toList (2 * t)))) 23, .c w0.heap.size (bA nought) 23]
set_option maxRecDepth 100000 in
set_option maxHeartbeats 2000000 in
theorem rparse3_len (s : ByteArray) (w0 : World) (hs : s.size ≠ 64) :
    Calls Try.prog 102 #[.string s] w0 fun e w' => e = .returned (.tuple #[.agg (bA nought), .int .i64 2]) ∧ Below w0.heap.size w0 w' := by
  have hs' : ((s.size : Int) != 64) = true := by rw [bne_iff_ne]; omega
  clear hs
  have M := Mem.nil w0; have F := Mem.facts M; simp only [MemFacts] at F; (try simp only [ApartFacts] at F)
  go_enter Try.func102, Try.ntmps102
  go_wp2_with (first | (refine wl_box rfl 23 _ rfl rfl ?_) | (refine wl_alloc rfl 23 rfl hshZ ?_) | (refine wl_store (c := bA nought) rfl 23 _ _ rfl hshT rfl (by rw [bA_nought]; rfl) (heap_alloc_new _ _) (by rw [bA_size]; exact nought_length) (by rw [bA_size]; exact nought_length) (bA_one _) ?_))
  replace M := Mem.alloc M (cs := bA nought) (t := 23)
  have M2 := M.row 0 rfl (bA nought)
  refine bodyPost_ret (results_cell_row2 Try.results102 _ _ w0.heap.size 23 (bA nought) (0, 0) _ rfl (M2.at 0 rfl) hshT.under rfl (by rw [bA_size, nought_length]; exact hshT.size)) rfl ⟨rfl, M2.below⟩
set_option maxRecDepth 100000 in
set_option maxHeartbeats 2000000 in
theorem rparse3_64 (s : ByteArray) (w0 : World) (hs : s.size = 64) :
    Calls Try.prog 102 #[.string s] w0 fun e w' => e = .returned (.tuple #[.agg (bA (parseT s.data.toList).1), .int .i64 (parseT s.data.toList).2]) ∧ Below w0.heap.size w0 w' := by
  have hs' : ((s.size : Int) != 64) = false := by rw [bne_eq_false_iff_eq]; omega
  have bad : ∀ k (h : k < s.size), hexd s[k].toNat = none → parseT s.data.toList = (nought, 2) := fun k h hd => by
    unfold parseT
    rw [if_neg]
    rintro ⟨_, hall⟩
    have := List.all_eq_true.1 hall s[k] (List.getElem_mem (l := s.data.toList) (n := k) (by simpa using h))
    rw [isHex, hd] at this
    cases this
  have HS := Lib.hid hs
  clear hs
  have M := Mem.nil w0; have F := Mem.facts M; simp only [MemFacts] at F; (try simp only [ApartFacts] at F)
  go_enter Try.func102, Try.ntmps102
  go_wp2_with (first | (refine wl_box rfl 23 _ rfl rfl ?_) | (refine wl_alloc rfl 23 rfl hshZ ?_))
  replace M := Mem.alloc (Mem.alloc M (cs := bA nought) (t := 23)) (cs := bA nought) (t := 23)
  simp only [World.size_alloc] at M
  go_loopw [5] (fun i wr => ∃ t, R3p s w0 i wr t) (fun i _ => (64 - intOf i).toNat)
  case atStart =>
    refine ⟨0, Nat.zero_le _, rfl, rfl, ?_⟩
    rw [show 2 * 0 = 0 from rfl, unf_zero]
    exact M
  case round =>
    clear M F
    obtain ⟨t, le, rfl, hall, M⟩ := hrel
    have F := Mem.facts M; simp only [MemFacts] at F; (try simp only [ApartFacts] at F)
    rcases Nat.lt_or_ge t 32 with hlt | hge
    · obtain ⟨k, hk⟩ : ∃ k, k = 2 * t := ⟨_, rfl⟩
      rw [← hk]
      have hk64 : (k : Int) < 64 := by omega
      have hks : k < s.size := by rw [HS.out]; omega
      have hks1 : k + 1 < s.size := by rw [HS.out]; omega
      have hks' : (k : Int) < (s.size : Int) := by omega
      have hks1' : (k : Int) + 1 < (s.size : Int) := by omega
      have HM := Lib.hid M
      have Hall := Lib.hid hall
      have HK := Lib.hid hk
      clear M hall hk
      rcases hd : hexd s[k].toNat with _ | d
      · obtain ⟨z, hz⟩ := r3digit_any s[k + 1].toNat
        have ep := bad k hks hd
        have HD := Lib.hid hd
        clear hd
        replace M := HM.out
        have bn := nought_length
        go_wp2_with (first | (go_at_call 134; (first | (with_reducible refine (r3digit_none _ HD.out _).mono ?_) | (with_reducible refine (hz _).mono ?_)); rintro e w1 ⟨rfl, hb⟩; replace M := Mem.call (w0 := w0) (by repeat' (first | (with_reducible exact M) | (with_reducible apply Mem.drew) | (with_reducible apply Mem.alloc))) hb; clear hb; (try clear F); (try simp only [World.size_alloc] at M); (try simp only [heap_drew] at M); have F := Mem.facts M; simp only [MemFacts] at F; (try simp only [ApartFacts] at F)) | (refine wl_store (c := bA nought) rfl 23 _ _ rfl hshT rfl (by rw [bA_nought]; rfl) (Mem.at (w0 := w0) 1 (by repeat' (first | (with_reducible exact M) | (with_reducible apply Mem.drew) | (with_reducible apply Mem.alloc') | (simp only [World.size_alloc]; exact rfl) | exact rfl)) (by rfl)) (by rw [bA_size]; exact nought_length) (by rw [bA_size]; exact nought_length) (bA_one _) ?_))
        rw [ep]
        have M2 := M.row 1 rfl (bA nought)
        refine bodyPost_ret (results_cell_row2 Try.results102 _ _ w0.heap.size 23 _ (0, 0) _ rfl (M2.at 1 rfl) hshT.under rfl (by rw [bA_size, nought_length]; exact hshT.size)) rfl ⟨rfl, M2.below⟩
      · rcases hd2 : hexd s[k + 1].toNat with _ | d2
        · have ep := bad (k + 1) hks1 hd2
          have HD := Lib.hid hd
          have HD2 := Lib.hid hd2
          have n1 : ¬ ((d : Int) < 0) := by omega
          clear hd hd2
          replace M := HM.out
          have bn := nought_length
          go_wp2_with (first | (go_at_call 134; (first | (with_reducible refine (r3digit_some _ d HD.out _).mono ?_) | (with_reducible refine (r3digit_none _ HD2.out _).mono ?_)); rintro e w1 ⟨rfl, hb⟩; replace M := Mem.call (w0 := w0) (by repeat' (first | (with_reducible exact M) | (with_reducible apply Mem.drew) | (with_reducible apply Mem.alloc))) hb; clear hb; (try clear F); (try simp only [World.size_alloc] at M); (try simp only [heap_drew] at M); have F := Mem.facts M; simp only [MemFacts] at F; (try simp only [ApartFacts] at F)) | (refine wl_store (c := bA nought) rfl 23 _ _ rfl hshT rfl (by rw [bA_nought]; rfl) (Mem.at (w0 := w0) 1 (by repeat' (first | (with_reducible exact M) | (with_reducible apply Mem.drew) | (with_reducible apply Mem.alloc') | (simp only [World.size_alloc]; exact rfl) | exact rfl)) (by rfl)) (by rw [bA_size]; exact nought_length) (by rw [bA_size]; exact nought_length) (bA_one _) ?_))
          rw [ep]
          have M2 := M.row 1 rfl (bA nought)
          refine bodyPost_ret (results_cell_row2 Try.results102 _ _ w0.heap.size 23 _ (0, 0) _ rfl (M2.at 1 rfl) hshT.under rfl (by rw [bA_size, nought_length]; exact hshT.size)) rfl ⟨rfl, M2.below⟩
        · obtain ⟨j, hj⟩ : ∃ j, j = 31 - t := ⟨_, rfl⟩
          have hj' : (31 : Int) - (k : Int) / 2 = (j : Int) := by have := HK.out; omega
          have hj32 : (j : Int) < 32 := by omega
          have d16 := hexd_lt hd
          have d162 := hexd_lt hd2
          have hp := hex_pair d d2 d16 d162
          have n1 : ¬ ((d : Int) < 0) := by omega
          have n2 : ¬ ((d2 : Int) < 0) := by omega
          have hcell : (bA (tab 32 (unf s.data.toList (2 * t))))[j]? = some (.int .u8 ((unf s.data.toList (2 * t) j).toNat : Int)) := by rw [bA_get (by simp; omega), at8_tab (by omega)]
          have HD := Lib.hid hd
          have HD2 := Lib.hid hd2
          have HJ := Lib.hid hj
          have HP := Lib.hid hp
          clear hd hd2 hj hp
          replace M := HM.out
          go_wp2_with (first | (go_at_call 134; (first | (with_reducible refine (r3digit_some _ d HD.out _).mono ?_) | (with_reducible refine (r3digit_some _ d2 HD2.out _).mono ?_)); rintro e w1 ⟨rfl, hb⟩; replace M := Mem.call (w0 := w0) (by repeat' (first | (with_reducible exact M) | (with_reducible apply Mem.drew) | (with_reducible apply Mem.alloc))) hb; clear hb; (try clear F); (try simp only [World.size_alloc] at M); (try simp only [heap_drew] at M); have F := Mem.facts M; simp only [MemFacts] at F; (try simp only [ApartFacts] at F)))
          rw [HP.out]
          have M2 := M.put 0 rfl j (.int .u8 ((UInt8.ofNat (d * 16 + d2)).toNat : Int))
          dsimp only [List.set_cons_zero, List.set_cons_succ] at M2
          have e1 : hv s.data.toList (2 * t) = d := by
            rw [← HK.out]
            unfold hv
            rw [List.getElem?_eq_getElem (by simpa using hks)]
            show hexv s[k] = d
            unfold hexv; rw [HD.out]; rfl
          have e2 : hv s.data.toList (2 * t + 1) = d2 := by
            rw [← HK.out]
            unfold hv
            rw [List.getElem?_eq_getElem (by simpa using hks1)]
            show hexv s[k + 1] = d2
            unfold hexv; rw [HD2.out]; rfl
          have hx := unf_two s.data.toList t hlt
          rw [e1, e2, ← HJ.out] at hx
          rw [bA_tab_set, tab_congr hx] at M2
          refine ⟨⟨t + 1, by omega, ?_, ?_, M2⟩, by simp only [intOf]; omega⟩
          · have := HK.out
            congr 1
            omega
          · have t1 : s.data.toList.take (k + 1) = s.data.toList.take k ++ [s[k]] := take_snoc8 _ k (by simpa using hks)
            have t2 : s.data.toList.take (k + 1 + 1) = s.data.toList.take (k + 1) ++ [s[k + 1]] := take_snoc8 _ (k + 1) (by simpa using hks1)
            have h := Hall.out
            rw [← HK.out] at h
            rw [show 2 * (t + 1) = k + 1 + 1 by have := HK.out; omega, t2, t1, List.all_append, List.all_append, h]
            simp [isHex, HD.out, HD2.out]
    · obtain rfl : t = 32 := by omega
      have hA := hall
      rw [List.take_of_length_le (by rw [ByteArray.size] at HS; simpa using Nat.le_of_eq HS.out)] at hA
      have Ep : Hid (parseT s.data.toList = (tab 32 (unf s.data.toList 64), 0)) := by
        unfold parseT
        rw [if_pos ⟨by rw [← HS.out]; simp, hA⟩]
        rfl
      rw [show 2 * 32 = 64 from rfl] at *
      have hl : (tab 32 (unf s.data.toList 64)).length = 32 := tab_length _ _
      clear hall hA
      go_wp2_with (first | (refine wl_isLoad 23 (.tmp 4) rfl ?_; refine wl_load rfl 23 (.tmp 4) rfl hshT rfl (Mem.at (w0 := w0) 0 (by repeat' (first | (with_reducible exact M) | (with_reducible apply Mem.drew) | (with_reducible apply Mem.alloc') | (simp only [World.size_alloc]; exact rfl) | exact rfl)) (by rfl)) (by first | (rw [wA_size]; exact hl) | (rw [bA_size]; exact hl) | exact hl | exact rfl) ?_) | (refine wl_isStore 23 (.tmp 2) _ rfl ?_; refine wl_storeM (w0 := w0) rfl 23 (.tmp 2) _ rfl hshT rfl rfl 1 (by repeat' (first | (with_reducible exact M) | (with_reducible apply Mem.drew) | (with_reducible apply Mem.alloc') | (simp only [World.size_alloc]; exact rfl) | exact rfl)) (by rfl) (by first | (rw [wA_size]; exact hl) | (rw [bA_size]; exact hl) | exact hl | exact rfl) (by first | (rw [wA_size]; exact nought_length) | (rw [bA_size]; exact nought_length) | exact nought_length | exact rfl) (by first | exact wA_one _ | exact bA_one _ | decide) ?_; clear M F; intro M; (try simp only [World.size_alloc, size_setRow] at M); (try simp only [List.set_cons_succ] at M); (try simp only [List.set_cons_zero] at M); have F := Mem.facts M; simp only [MemFacts] at F; (try simp only [ApartFacts] at F)))
      rw [Ep.out]
      refine bodyPost_ret (results_cell_row2 Try.results102 _ _ w0.heap.size 23 _ (0, 0) _ rfl (M.at 1 rfl) hshT.under rfl (by rw [bA_size, hl]; exact hshT.size)) rfl ⟨rfl, M.below⟩
theorem rparse3_c (s : ByteArray) (w0 : World) :
    Calls Try.prog 102 #[.string s] w0 fun e w' => e = .returned (.tuple #[.agg (bA (parseT s.data.toList).1), .int .i64 (parseT s.data.toList).2]) ∧ Below w0.heap.size w0 w' := by
  by_cases hs : s.size = 64
  · exact rparse3_64 s w0 hs
  · have e : parseT s.data.toList = (nought, 2) := by unfold parseT; rw [if_neg fun h => hs (by rw [← h.1]; simp)]
    rw [e]
    exact rparse3_len s w0 hs
end Go.Proofs.Ytkgjgdeaclefiaa
